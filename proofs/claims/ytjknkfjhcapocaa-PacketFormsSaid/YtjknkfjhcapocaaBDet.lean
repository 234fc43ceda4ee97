/- An abstract run has an outcome of its own. -/
import Derived.Test.YtjknkfjhcapocaaBLoop
namespace Go.Proofs.Ytjknkfjhcapocaa.AX
set_option linter.unusedVariables false
/-- Of a call nothing is known but what is right of it. -/
def QR (P : Program) : Qs := fun f args H nm wd => some fun K => ∃ v e rd, CallR P f args H nm wd ⟨none, v, e, rd⟩ ∧ K v e rd
theorem QR_ok (P : Program) : QsOk P (QR P) := by
  intro f args H nm wd q _ h K hK
  injection h with h
  subst h
  exact hK
theorem QR_mono (P : Program) : QsMono (QR P) := by
  intro f args H nm wd q h K K' hKK hK
  injection h with h
  subst h
  obtain ⟨v, e, rd, h1, h2⟩ := hK
  exact ⟨v, e, rd, h1, hKK _ _ _ h2⟩
theorem runR_det {P : Program} {T : Tys} {Q : Qs} {wd nt : Nat} (hwd : 0 < wd) (hQ : QsOk P Q) {all : List Oper} : ∀ (os : List Oper) (i : Nat) (fr : Fr) (H : Hp) (nx : Nat) (log : Log) (K : Fr → Hp → Nat → Log → Prop), runR T Q wd nt all os i fr H nx log K →
    ∃ fr' H' nx' log', K fr' H' nx' log' ∧ ∀ K' : Fr → Hp → Nat → Log → Prop, K' fr' H' nx' log' → runR T (QR P) wd nt all os i fr H nx log K' := by
  intro os
  induction os with
  | nil => intro i fr H nx log K h; exact ⟨fr, H, nx, log, h, fun K' h' => h'⟩
  | cons o os ih =>
    intro i fr H nx log K h
    unfold runR at h
    cases hd : okDst nt o.dst with
    | false => rw [hd] at h; exact h.elim
    | true =>
      rw [hd, cond_true] at h
      split at h
      · rename_i hw
        split at h
        · rename_i f args hc
          split at h
          · rename_i q hq hG
            obtain ⟨v, e, rd, h1, h2⟩ := hQ _ _ _ _ _ _ hwd hq _ h
            obtain ⟨a, b, c, d, hK, hr⟩ := ih _ _ _ _ _ _ h2
            refine ⟨a, b, c, d, hK, fun K' hK' => ?_⟩
            unfold runR
            simp only [hd, cond_true, hw, hc, hG, QR]
            exact ⟨v, e, rd, h1, hr K' hK'⟩
          · exact h.elim
        · rename_i hc
          split at h
          · rename_i pre val eff rd hs
            split at h
            · rename_i hG
              obtain ⟨a, b, c, d, hK, hr⟩ := ih _ _ _ _ _ _ h
              refine ⟨a, b, c, d, hK, fun K' hK' => ?_⟩
              unfold runR
              simp only [hd, cond_true, hw, hs, hc, hG]
              exact hr K' hK'
            · rename_i hG
              obtain ⟨a, b, c, d, hK, hr⟩ := ih _ _ _ _ _ _ h.2
              refine ⟨a, b, c, d, hK, fun K' hK' => ?_⟩
              unfold runR
              simp only [hd, cond_true, hw, hs, hc, hG]
              exact ⟨h.1, hr K' hK'⟩
            · rename_i b hG
              rcases Bool.eq_false_or_eq_true b with hb | hb
              · subst hb
                obtain ⟨a, b, c, d, hK, hr⟩ := ih _ _ _ _ _ _ (h.1 rfl)
                refine ⟨a, b, c, d, hK, fun K' hK' => ?_⟩
                unfold runR
                simp only [hd, cond_true, hw, hs, hc, hG]
                exact ⟨fun _ => hr K' hK', (fun h => nomatch h)⟩
              · subst hb
                obtain ⟨a, b, c, d, hK, hr⟩ := ih _ _ _ _ _ _ (h.2 rfl)
                refine ⟨a, b, c, d, hK, fun K' hK' => ?_⟩
                unfold runR
                simp only [hd, cond_true, hw, hs, hc, hG]
                exact ⟨(fun h => nomatch h), fun _ => hr K' hK'⟩
            · rename_i p b hG
              rcases Bool.eq_false_or_eq_true b with hb | hb
              · subst hb
                obtain ⟨a, b, c, d, hK, hr⟩ := ih _ _ _ _ _ _ (h.2.1 rfl)
                refine ⟨a, b, c, d, hK, fun K' hK' => ?_⟩
                unfold runR
                simp only [hd, cond_true, hw, hs, hc, hG]
                exact ⟨h.1, fun _ => hr K' hK', (fun h => nomatch h)⟩
              · subst hb
                obtain ⟨a, b, c, d, hK, hr⟩ := ih _ _ _ _ _ _ (h.2.2 rfl)
                refine ⟨a, b, c, d, hK, fun K' hK' => ?_⟩
                unfold runR
                simp only [hd, cond_true, hw, hs, hc, hG]
                exact ⟨h.1, (fun h => nomatch h), fun _ => hr K' hK'⟩
            · exact h.elim
          · exact h.elim
      · rename_i hw
        obtain ⟨a, b, c, d, hK, hr⟩ := ih _ _ _ _ _ _ h
        refine ⟨a, b, c, d, hK, fun K' hK' => ?_⟩
        unfold runR
        simp only [hd, cond_true, hw]
        exact hr K' hK'
      · exact h.elim
/-- One outcome. -/
def Det (R : Kt → Prop) (K : Kt) : Prop := ∃ e fr H nx, K e fr H nx ∧ ∀ K' : Kt, K' e fr H nx → R K'
theorem exec_det {P : Program} {T : Tys} {Q : Qs} {wd nt np : Nat} (hwd : 0 < wd) (hQ : QsOk P Q) : ∀ (c : Code) (fr : Fr) (H : Hp) (nx : Nat) (K : Kt), exec T Q wd nt np c fr H nx K → Det (exec T (QR P) wd nt np c fr H nx) K := by
  intro c
  induction c with
  | skip => intro fr H nx K h; exact ⟨_, _, _, _, h, fun K' h' => h'⟩
  | region id ops draw =>
    intro fr H nx K h
    unfold exec at h
    obtain ⟨a, b, c, d, hK, hr⟩ := runR_det hwd hQ _ _ _ _ _ _ _ h
    cases hb : (!draw || regOkA ops.toList d.reverse) with
    | false => rw [hb] at hK; exact hK.elim
    | true =>
      rw [hb, cond_true] at hK
      refine ⟨_, _, _, _, hK, fun K' hK' => ?_⟩
      unfold exec
      refine hr _ ?_
      rw [hb, cond_true]
      exact hK'
  | seq a b iha ihb =>
    intro fr H nx K h
    unfold exec at h
    obtain ⟨e, fr1, H1, nx1, hK, hr⟩ := iha _ _ _ _ h
    cases e with
    | normal =>
      obtain ⟨e2, fr2, H2, nx2, hK2, hr2⟩ := ihb _ _ _ _ hK
      refine ⟨e2, fr2, H2, nx2, hK2, fun K' hK' => ?_⟩
      unfold exec
      exact hr _ (hr2 K' hK')
    | _ =>
      refine ⟨_, _, _, _, hK, fun K' hK' => ?_⟩
      unfold exec
      exact hr _ hK'
  | cond x a b iha ihb =>
    intro fr H nx K h
    unfold exec at h
    split at h
    · rename_i t ht
      rcases Bool.eq_false_or_eq_true t with hb | hb
      · subst hb
        obtain ⟨e, fr1, H1, nx1, hK, hr⟩ := iha _ _ _ _ (h.1 rfl)
        refine ⟨_, _, _, _, hK, fun K' hK' => ?_⟩
        unfold exec
        rw [ht]
        exact ⟨fun _ => hr K' hK', (fun h => nomatch h)⟩
      · subst hb
        obtain ⟨e, fr1, H1, nx1, hK, hr⟩ := ihb _ _ _ _ (h.2 rfl)
        refine ⟨_, _, _, _, hK, fun K' hK' => ?_⟩
        unfold exec
        rw [ht]
        exact ⟨(fun h => nomatch h), fun _ => hr K' hK'⟩
    · exact h.elim
  | block id c ih =>
    intro fr H nx K h
    unfold exec at h
    obtain ⟨e, fr1, H1, nx1, hK, hr⟩ := ih _ _ _ _ h
    cases e with
    | exit j =>
      cases hb : Nat.beq j id with
      | true =>
        simp only [blkK, hb, cond_true] at hK
        refine ⟨_, _, _, _, hK, fun K' hK' => ?_⟩
        unfold exec
        refine hr _ ?_
        simp only [blkK, hb, cond_true]
        exact hK'
      | false =>
        simp only [blkK, hb, cond_false] at hK
        refine ⟨_, _, _, _, hK, fun K' hK' => ?_⟩
        unfold exec
        refine hr _ ?_
        simp only [blkK, hb, cond_false]
        exact hK'
    | _ =>
      refine ⟨_, _, _, _, hK, fun K' hK' => ?_⟩
      unfold exec
      exact hr _ hK'
  | loop c ih =>
    intro fr H nx K h
    unfold exec at h
    obtain ⟨n, h⟩ := h
    have key : ∀ n fr H nx, iter np (exec T Q wd nt np c) K n fr H nx → ∃ e fr1 H1 nx1, K e fr1 H1 nx1 ∧ ∀ K' : Kt, K' e fr1 H1 nx1 → ∃ m, iter np (exec T (QR P) wd nt np c) K' m fr H nx := by
      intro n
      induction n with
      | zero => intro fr H nx h; exact h.elim
      | succ n ihn =>
        intro fr H nx h
        obtain ⟨fr', H', rho, nx', h0, hrho, h1, h2, h3⟩ := h
        obtain ⟨e, fr1, H1, nx1, hK, hr⟩ := ih _ _ _ _ h3
        cases e with
        | normal =>
          obtain ⟨e2, fr2, H2, nx2, hK2, hr2⟩ := ihn _ _ _ hK
          refine ⟨e2, fr2, H2, nx2, hK2, fun K' hK' => ?_⟩
          obtain ⟨m, hm⟩ := hr2 K' hK'
          exact ⟨m + 1, fr', H', rho, nx', h0, hrho, h1, h2, hr _ hm⟩
        | _ => exact ⟨_, _, _, _, hK, fun K' hK' => ⟨1, fr', H', rho, nx', h0, hrho, h1, h2, hr _ hK'⟩⟩
    obtain ⟨e, fr1, H1, nx1, hK, hr⟩ := key n _ _ _ h
    refine ⟨e, fr1, H1, nx1, hK, fun K' hK' => ?_⟩
    unfold exec
    exact hr K' hK'
  | exit id => intro fr H nx K h; exact ⟨_, _, _, _, h, fun K' h' => h'⟩
  | ret => intro fr H nx K h; exact ⟨_, _, _, _, h, fun K' h' => h'⟩
  | label l => intro fr H nx K h; exact ⟨_, _, _, _, h, fun K' h' => h'⟩
  | _ => intro fr H nx K h; exact h.elim
/-- An end whose demand is 'some of these'. -/
theorem exec_some {α : Type} {P : Program} {T : Tys} {Q : Qs} {wd nt np : Nat} (hwd : 0 < wd) (hQ : QsOk P Q) {c : Code} {fr : Fr} {H : Hp} {nx : Nat} {rv : List ResultVar} {post : α → FV → Hp → Nat → Prop} {S : α → Prop}
    (h : exec T Q wd nt np c fr H nx (endH T rv fun x Hf nf => ∃ a, S a ∧ post a x Hf nf)) : ∃ a, S a ∧ exec T (QR P) wd nt np c fr H nx (endH T rv (post a)) := by
  obtain ⟨e, fr1, H1, nx1, hK, hr⟩ := exec_det hwd hQ _ _ _ _ _ h
  have : ∃ a, S a ∧ endH T rv (post a) e fr1 H1 nx1 := by
    cases e with
    | ret =>
      simp only [endH] at hK ⊢
      split at hK
      · obtain ⟨a, h1, h2⟩ := hK; exact ⟨a, h1, h2⟩
      · exact hK.elim
    | normal =>
      simp only [endH] at hK ⊢
      split at hK
      · obtain ⟨a, h1, h2⟩ := hK; exact ⟨a, h1, h2⟩
      · exact hK.elim
    | _ => exact hK.elim
  obtain ⟨a, h1, h2⟩ := this
  exact ⟨a, h1, hr _ h2⟩
end Go.Proofs.Ytjknkfjhcapocaa.AX
