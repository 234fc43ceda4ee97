/- PacketReads, by AX2: the law returns true. -/
import Derived.Test.YtjknkfjhcapocaaPkU
namespace Go.Proofs.Ytjknkfjhcapocaa.AX
open Go.RowKit
set_option linter.unusedVariables false
set_option linter.unusedSimpArgs false
theorem dec_pay (b : List Int) : (decF b).1.2.length ≤ 1280 := by
  by_cases h : (decF b).2 = 0
  · obtain ⟨l1, l2, e⟩ := dec_len h
    rw [e, pkF_pay]
    split
    · rw [List.length_drop]; omega
    · rw [List.length_drop]; omega
  · have : (decF b).1 = pk0 := by
      unfold decF at h ⊢
      split
      · rfl
      · split
        · rfl
        · split
          · rfl
          · split
            · rfl
            · split
              · rfl
              · split
                · rfl
                · rename_i c1 c2 c3 c4 c5 c6
                  rw [if_neg c1, if_neg c2, if_neg c3, if_neg c4, if_neg c5, if_neg c6] at h
                  exact absurd rfl h
    rw [this]; decide
theorem fwd_len (b : List Int) : (fwdF b).1.length ≤ b.length := by
  unfold fwdF
  split
  · exact Nat.zero_le _
  · split
    · exact Nat.zero_le _
    · exact Nat.le_of_eq (List.length_set ..)
set_option maxHeartbeats 4000000 in
set_option maxRecDepth 20000 in
theorem lsame_ok (b : List Int) (hb : BL b) (hl : b.length ≤ 140737488355328) : PureOk Try.prog 29 [(cSl eB eB_sz).enc b] (cB.enc true) := by
  obtain ⟨D, eD⟩ : ∃ D, decF b = D := ⟨_, rfl⟩
  obtain ⟨F, eF⟩ : ∃ F, fwdF b = F := ⟨_, rfl⟩
  have hD := dec_pay b
  have hF := fwd_len b
  rw [eD] at hD
  rw [eF] at hF
  refine pure_intro (wd := 1) (Q := mkQ LWp) (by decide) tysOk (q_of LWp_ok) mixed Try.func29 rfl _ (by show 1 ≤ _; decide) _ ?_
  repeat' (first | (apply And.intro <;> intro hc <;> (first | exact Bool.noConfusion hc | (exfalso; first | exact absurd rfl hc) | (simp only [decide_eq_true_eq, decide_eq_false_iff_not, Bool.not_eq_true', Bool.not_eq_false', beq_iff_eq, beq_eq_false_iff_ne, bne_iff_ne, bne_eq_false_iff_eq, Bool.true_eq_false, Bool.false_eq_true, ne_eq, not_true_eq_false] at hc <;> first | exact absurd rfl hc | (exfalso; first | exact absurd rfl hc) | skip) | skip)) | (refine And.intro (by first | exact trivial | decide | omega | (dsimp only; omega) | exact fun _ _ => rfl | exact ⟨by assumption, by first | exact trivial | decide | omega | (dsimp only; omega)⟩) ?_) | (apply And.intro) | (intro s hs; (first | (have q : D = s := (by (rw [hs]; dsimp only; rw [toL_b, eD])); clear hs; subst q) | (have q : F = s := (by (rw [hs]; dsimp only; rw [toL_b, eF])); clear hs; subst q) | (have q : s = true := hs; clear hs; subst q) | skip)))
  all_goals first
    | (dsimp only; rw [toL_b]; exact hb)
    | (dsimp only; rw [toL_b]; exact hl)
    | exact fun _ => rfl
    | exact rfl
    | exact (pk_eq D.1 _).trans (pk_eq D.1 _).symm
    | (show (toL eB D.1.2.length _).length ≤ _; rw [toL_len]; omega)
    | (show (toL eB F.1.length _).length ≤ _; rw [toL_len]; omega)
    | (have q : s = true := (by (rw [hs]; dsimp only; exact decide_eq_true rfl)); exact Done.mk (leF_bool q))
    | skip
abbrev lsameE : Entry := pureE (AC.cons (cSl eB eB_sz) AC.nil) (fun a => BL a.1 ∧ a.1.length ≤ 140737488355328) (fun _ => true) cB.enc
def LWq : CsL := (29, some lsameE) :: LWp
theorem LWq_ok : AllOk Try.prog LWq := ⟨pureE_ok ⟨_, Try.func29, rfl, by kernel_rfl⟩ fun a h => lsame_ok a.1 h.1 h.2, LWp_ok⟩
/-- n cells hold bytes. -/
structure IsB (F : Nat → Nat → CV) (n : Nat) : Prop where
  at_ : ∀ k, k < n → ∃ x, F k 0 = .int .u8 x ∧ 0 ≤ x ∧ x < 256
theorem isB_row {L : List Int} (h : BL L) (n : Nat) : IsB (rowF eB L) n := ⟨fun k _ => ⟨_, rfl, h.get k⟩⟩
theorem isB_0 {F : Nat → Nat → CV} {n : Nat} (h : IsB F n) : IsB (fun k j => F (0 + k) j) n := ⟨fun k hk => by show ∃ x, F (0 + k) 0 = _ ∧ _; rw [Nat.zero_add]; exact h.at_ k hk⟩
theorem isB_le {F : Nat → Nat → CV} {n m : Nat} (h : IsB F n) (hm : m ≤ n) : IsB F m := ⟨fun k hk => h.at_ k (by omega)⟩
theorem isB_set {G : Nat → Nat → CV} {n i : Nat} {x : Int} {g : Nat → CV} (h : IsB G n) (hg : g 0 = .int .u8 x) (hx : 0 ≤ x ∧ x < 256) : IsB (updE false G i g) n := ⟨fun k hk => by
  show ∃ y, selC (Nat.beq k i) (g 0) (G k 0) = _ ∧ _
  obtain ⟨z, hz, hzr⟩ := h.at_ k hk
  rw [selC_eq, hg, hz]
  cases Nat.beq k i with
  | true => exact ⟨x, rfl, hx⟩
  | false => exact ⟨z, rfl, hzr⟩⟩
theorem isB_app {A C : Nat → Nat → CV} {n m : Nat} (h1 : IsB A n) (h2 : IsB C m) : IsB (fun k j => selC (Nat.blt k n) (A k j) (C (k - n) j)) (n + m) := ⟨fun k hk => by
  show ∃ y, selC (Nat.blt k n) (A k 0) (C (k - n) 0) = _ ∧ _
  rcases Nat.lt_or_ge k n with h | h
  · obtain ⟨z, hz, hzr⟩ := h1.at_ k h
    rw [blt_lt h, selC_true]
    exact ⟨z, hz, hzr⟩
  · obtain ⟨z, hz, hzr⟩ := h2.at_ (k - n) (by omega)
    rw [blt_no h, selC_false]
    exact ⟨z, hz, hzr⟩⟩
theorem isB_none {F : Nat → Nat → CV} : IsB F 0 := ⟨fun k hk => absurd hk (Nat.not_lt_zero _)⟩
theorem bl_isB {F : Nat → Nat → CV} {n : Nat} (h : IsB F n) : BL (toL eB n F) := ⟨fun x hx => by
  simp only [toL, List.mem_map, List.mem_range] at hx
  obtain ⟨k, hk, rfl⟩ := hx
  obtain ⟨z, hz, hzr⟩ := h.at_ k hk
  show 0 ≤ valI (F k 0) ∧ valI (F k 0) < 256
  rw [hz]; exact hzr⟩
theorem ok_isB {F : Nat → Nat → CV} {n s : Nat} (h : IsB F n) (hs : s < n) : eB.ok (F s) = true := by
  obtain ⟨z, hz, _⟩ := h.at_ s hs
  show isK .u8 (F s 0) = true
  rw [hz]; rfl
theorem pk_eq' (p : Pkt) (last : CV) : ((eHd.rd (tailC eHd p.1 last), toL eB p.2.length (rowF eB p.2)) : Pkt) = p := pk_is (h := p.1) (l := p.2) (fun j hj => tailC_lt hj) (toL_b p.2)
set_option maxHeartbeats 4000000 in
set_option maxRecDepth 20000 in
theorem reads_ok (raw : List Int) (hr : BL raw) (hrl : raw.length ≤ 140737488351232) (n : Nat) (l : List Int) (hl : rngL l) (at_ by_ cut : Int) (h2 : 0 ≤ by_ ∧ by_ < 256) : PureOk Try.prog 4 [.e (.c (.sl true raw.length 1 (rowF eB raw))), .e (.c (.sl true n 1 (rI l))), (cI .i64).enc at_, (cI .u8).enc by_, (cI .i64).enc cut] (.e (.c (.bool true))) := by
  refine pure_intro (wd := 1) (Q := mkQ LWq) (by decide) tysOk (q_of LWq_ok) mixed Try.func4 rfl _ (by show 5 ≤ _; decide) _ ?_
  repeat' (first | (apply And.intro <;> intro hc <;> (first | exact Bool.noConfusion hc | (simp only [decide_eq_true_eq, decide_eq_false_iff_not, Bool.not_eq_true', Bool.not_eq_false', beq_iff_eq, beq_eq_false_iff_ne, bne_iff_ne, bne_eq_false_iff_eq, Bool.true_eq_false, Bool.false_eq_true, ne_eq, not_true_eq_false] at hc <;> first | exact absurd rfl hc | skip) | skip)) | (refine And.intro (by first | exact trivial | decide | omega | (dsimp only; omega) | exact fun _ _ => rfl | exact ⟨by assumption, by first | exact trivial | decide | omega | (dsimp only; omega)⟩) ?_) | (apply And.intro) | (intro s hs; (first | (have q : s = encR r := hs.trans (congrArg encR (pk_eq' r _)); clear hs; rw [hE] at q; subst q) | (have q : s = true := hs; clear hs; subst q) | (have hm : PkM s := hs; clear hs; rename Pkt => r; obtain ⟨L, hE, hLn, hLb⟩ : ∃ L, encR r = some L ∧ (L.length : Int) = sizeP r ∧ BL L := ⟨encB r (sumP r), if_pos hm.v, encB_len _ _, encB_BL hm.w _⟩; have hsz := valid_size hm.v; have hsz2 := sizeP_ge r) | (have hi : 0 ≤ s ∧ s < (if (50 : Int) < ((0 + L.length : Nat) : Int) then 50 else ((0 + L.length : Nat) : Int)) := (by (rw [show s = modF at_ (if (50 : Int) < ((0 + L.length : Nat) : Int) then 50 else ((0 + L.length : Nat) : Int)) from hs]; exact modF_lt (by split <;> omega))); clear hs; have hiL : 0 ≤ s ∧ s < L.length := ⟨hi.1, (by have := hi.2; split at this <;> omega)⟩; clear hi) | (have wl : (IntKind.i64.wrap (((0 + L.length : Nat) : Int) + 1)) = ((0 + L.length : Nat) : Int) + 1 := IntWalk.i64_in _ (by omega); have hi : 0 ≤ s ∧ s < (IntKind.i64.wrap (((0 + L.length : Nat) : Int) + 1)) := (by (rw [show s = modF cut (IntKind.i64.wrap (((0 + L.length : Nat) : Int) + 1)) from hs]; exact modF_lt (by rw [wl]; omega))); rw [wl] at hi; clear hs) | skip)))
  all_goals first
    | exact ⟨l, rfl, hl⟩
    | exact rfl
    | exact fun _ => rfl
    | exact Eq.mp (congrArg PkW (pk_eq' r _).symm) hm.w
    | (have hw := valid_len hm.v
       show (toL eB r.2.length _).length ≤ _
       rw [toL_len]
       omega)
    | (show BL (toL eB raw.length (rowF eB raw)); rw [toL_b]; exact hr)
    | (dsimp only [Option.getD_some]; omega)
    | (dsimp only [Option.getD_some]; split <;> omega)
    | (dsimp only [Option.getD_some]; rw [toL_len]; omega)
    | skip
  · exact bl_isB (isB_0 (isB_row hLb _))
  · exact bl_isB (isB_0 (isB_set (isB_app (n := 0) isB_none (isB_0 (isB_row hLb _))) rfl (u8r _)))
  · show 1 ≤ IntKind.i64.wrap (((0 + L.length : Nat) : Int) + 1)
    rw [IntWalk.i64_in _ (by omega)]; omega
  · show IntKind.i64.wrap (((0 + L.length : Nat) : Int) + 1) ≤ _
    rw [IntWalk.i64_in _ (by omega)]; omega
  · exact bl_isB (isB_0 (isB_le (isB_set (isB_app (n := 0) (m := L.length) isB_none (isB_0 (isB_row hLb _))) rfl (u8r _)) (by omega)))
  · exact bl_isB (isB_0 (F := fun k j => selC (Nat.blt k (0 + L.length)) (selC (Nat.blt k 0) (nth [CV.int IntKind.u8 0] j) (rowF eB L (0 + (k - 0)) j)) (rowF eB raw (k - (0 + L.length)) j)) (isB_app (A := fun k j => selC (Nat.blt k 0) (nth [CV.int IntKind.u8 0] j) (rowF eB L (0 + (k - 0)) j)) (C := rowF eB raw) (n := 0 + L.length) (m := raw.length) (isB_app (A := fun _ => nth [CV.int IntKind.u8 0]) (C := fun k j => rowF eB L (0 + k) j) (n := 0) (m := L.length) isB_none (isB_0 (isB_row hLb _))) (isB_row hr _)))
  · exact Done.mk (leF_bool rfl)
end Go.Proofs.Ytjknkfjhcapocaa.AX
