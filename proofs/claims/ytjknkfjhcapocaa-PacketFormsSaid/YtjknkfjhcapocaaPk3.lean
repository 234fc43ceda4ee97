/- Layer 13 by AX2: Sum and Encode of the program. -/
import Derived.Test.YtjknkfjhcapocaaPk2
namespace Go.Proofs.Ytjknkfjhcapocaa.AX
open Go.RowKit
set_option linter.unusedVariables false
set_option linter.unusedSimpArgs false
theorem ipL_BL {a : Fin 16 → Int} (h : ∀ i, 0 ≤ vget a i ∧ vget a i < 256) : BL (ipL a) := ⟨fun x hx => by
  unfold ipL at hx
  obtain ⟨i, _, rfl⟩ := List.mem_map.1 hx
  exact h i⟩
theorem encB_BL {p : Pkt} (hp : PkW p) (sum : Int) : BL (encB p sum) := by
  unfold encB
  refine (((((beB_BL _ _).append (beB_BL _ _)).append (BL.cons hp.nxt (BL.cons hp.hops BL.nil))).append (ipL_BL hp.src)).append (ipL_BL hp.dst)).append ?_ |>.append hp.pay
  split
  · exact (((beB_BL _ _).append (beB_BL _ _)).append (beB_BL _ _)).append (beB_BL _ _)
  · exact BL.nil
theorem encB_len (p : Pkt) (sum : Int) : ((encB p sum).length : Int) = sizeP p := by
  have h8 : (encH p).length = 8 := by unfold encH beB; simp [beN_len]
  rw [encB_eq, List.length_append, List.length_append, List.length_append, List.length_append, ipL_len, ipL_len, h8]
  unfold sizeP
  split
  · have hU : (encU p sum).length = 8 := by unfold encU beB; simp [beN_len]
    rw [hU]; omega
  · rw [List.length_nil]; omega
theorem valid_size {p : Pkt} (h : validP p = true) : sizeP p ≤ 1280 := by
  unfold validP at h
  simp only [Bool.and_eq_true, decide_eq_true_eq] at h
  exact h.1.2
theorem valid_len {p : Pkt} (h : validP p = true) : p.2.length ≤ 1240 := by
  have := valid_size h
  unfold sizeP at this
  split at this <;> omega
abbrev encodingE : Entry := newE (AC.cons cPk (AC.cons (cI .u16) AC.nil)) (fun a => PkW a.1 ∧ a.1.2.length ≤ 2000 ∧ 0 ≤ a.2.1 ∧ a.2.1 < 65536) (fun a => encB a.1 a.2.1) (fun L => some L.length) (fun _ => none) (fun L => ents eB 5 L)
def LPd : CsL := (63, some encodingE) :: LPc
theorem LPd_ok : AllOk Try.prog LPd := ⟨newE_ok ⟨_, Try.func63, rfl, by kernel_rfl⟩ (fun s l h => by cases h) fun a h => encoding_ok a.1 a.2.1 h.1 h.2.1 h.2.2, LPc_ok⟩
def sumP (p : Pkt) : Int := if validP p = true ∧ p.1.nxt = 17 then sum0 (coverB (encB p 0)) else 0
theorem inetF_r (l : List Int) : 0 ≤ inetF l ∧ inetF l < 65536 := by
  have := foldN_le (totI l)
  unfold inetF
  omega
theorem sumP_r (p : Pkt) : 0 ≤ sumP p ∧ sumP p < 65536 := by
  unfold sumP
  split
  · unfold sum0
    have := inetF_r (coverB (encB p 0))
    split <;> omega
  · omega
set_option maxHeartbeats 8000000 in
set_option maxRecDepth 20000 in
theorem psum_ok (p : Pkt) (hp : PkW p) (hl : p.2.length ≤ 140737488355328) : PureOk Try.prog 25 [cPk.enc p] ((cI .u16).enc (sumP p)) := by
  refine pure_intro (wd := 1) (Q := mkQ LPd) (by decide) tysOk (q_of LPd_ok) mixed Try.func25 rfl _ (by show 1 ≤ _; decide) _ ?_
  repeat' (first | (apply And.intro <;> intro hc <;> (first | exact Bool.noConfusion hc | (simp only [decide_eq_true_eq, decide_eq_false_iff_not, Bool.not_eq_true', Bool.not_eq_false', beq_iff_eq, beq_eq_false_iff_ne, bne_iff_ne, bne_eq_false_iff_eq, Bool.true_eq_false, Bool.false_eq_true, ne_eq, not_true_eq_false] at hc <;> first | exact absurd rfl hc | skip) | skip)) | (refine And.intro (by first | exact trivial | decide | omega | (dsimp only; omega) | exact fun _ _ => rfl | exact ⟨by assumption, by first | exact trivial | decide | omega | (dsimp only; omega)⟩) ?_) | (apply And.intro) | (intro s hs; (first | (have hs' : s = validP p := hs.trans (congrArg validP (pk_eq p _)); clear hs; subst hs') | (have hq : s = encB p 0 := hs.trans (congrArg (fun x => encB x 0) (pk_eq p _)); clear hs) | skip)))
  · dsimp only; rw [toL_b]; exact hl
  · exact Done.mk (leF_int (by unfold sumP; rw [if_neg fun h => by first | exact absurd h.1 (by assumption) | exact absurd h.2 (by assumption) | exact Bool.noConfusion (h.1.symm.trans (by assumption))]))
  · exact Done.mk (leF_int (by unfold sumP; rw [if_neg fun h => by first | exact absurd h.1 (by assumption) | exact absurd h.2 (by assumption) | exact Bool.noConfusion (h.1.symm.trans (by assumption))]))
  · dsimp only; rw [pk_eq]; exact hp
  · have hv : validP p = true := by assumption
    have := valid_len hv
    dsimp only; rw [toL_b]; omega
  · dsimp only; omega
  · exact rfl
  · dsimp only; rw [toL_b0, hq]; exact encB_BL hp 0
  · dsimp only; rw [toL_b0, hq]
    have h1 := encB_len p 0
    have h2 : p.1.nxt = 17 := by assumption
    unfold sizeP at h1; rw [if_pos h2] at h1; omega
  · dsimp only; rw [toL_b0, hq]
    have h1 := encB_len p 0
    have h2 := valid_size (p := p) (by assumption)
    omega
  · have hs' : s = sum0 (coverB (encB p 0)) := by
      rw [hs]
      dsimp only
      rw [toL_b0, hq]
    clear hs
    refine Done.mk (leF_int ?_)
    rw [hs']
    unfold sumP; rw [if_pos ⟨by assumption, by assumption⟩]
abbrev sumE : Entry := pureE PA (fun a => PkW a.1 ∧ a.1.2.length ≤ 140737488355328) (fun a => sumP a.1) (cI .u16).enc
def LPe : CsL := (25, some sumE) :: LPd
theorem LPe_ok : AllOk Try.prog LPe := ⟨pureE_ok ⟨_, Try.func25, rfl, by kernel_rfl⟩ fun a h => psum_ok a.1 h.1 h.2, LPd_ok⟩
/-- The encoding of a packet: none if it is not valid. -/
def encR (p : Pkt) : Option (List Int) := if validP p = true then some (encB p (sumP p)) else none
def ecR (o : Option (List Int)) : Int := if o.isSome then 0 else 1
abbrev i64V (n : Int) : EV := .c (.int .i64 n)
set_option maxHeartbeats 8000000 in
set_option maxRecDepth 20000 in
theorem pencode_ok (p : Pkt) (hp : PkW p) (hl : p.2.length ≤ 140737488355328) : NewOk Try.prog 19 [cPk.enc p] (some ((encR p).getD []).length) (some [i64V (ecR (encR p))]) (ents eB 5 ((encR p).getD [])) := by
  refine new_intro (wd := 1) (Q := mkQ LPe) (by decide) tysOk (q_of LPe_ok) mixed Try.func19 rfl _ (by show 1 ≤ _; decide) (fun i _ j _ => row_nf eB _ i j) ?_
  repeat' (first | (apply And.intro <;> intro hc <;> (first | exact Bool.noConfusion hc | (simp only [decide_eq_true_eq, decide_eq_false_iff_not, Bool.not_eq_true', Bool.not_eq_false', beq_iff_eq, beq_eq_false_iff_ne, bne_iff_ne, bne_eq_false_iff_eq, Bool.true_eq_false, Bool.false_eq_true, ne_eq, not_true_eq_false] at hc <;> first | exact absurd rfl hc | skip) | skip)) | (refine And.intro (by first | exact trivial | decide | omega | (dsimp only; omega) | exact fun _ _ => rfl | exact ⟨by assumption, by first | exact trivial | decide | omega | (dsimp only; omega)⟩) ?_) | (apply And.intro) | (intro s hs; (first | (have hs' : s = validP p := hs.trans (congrArg validP (pk_eq p _)); clear hs; subst hs') | (have hs' : s = sumP p := hs.trans (congrArg sumP (pk_eq p _)); clear hs; subst hs') | (have hq : s = encB p (sumP p) := hs.trans (congrArg (fun x => encB x (sumP p)) (pk_eq p _)); clear hs) | skip)))
  · dsimp only; rw [toL_b]; exact hl
  · have e : encR p = none := if_neg (fun h => by simp_all)
    rw [e]
    exact ⟨⟨none, leF_tup ⟨leC_nils_os rfl, leC_int rfl, trivial⟩, rfl, rfl, by decide⟩⟩
  · dsimp only; rw [pk_eq]; exact hp
  · dsimp only; rw [toL_b]; exact hl
  · dsimp only; rw [pk_eq]; exact hp
  · have hv : validP p = true := by simp_all
    have := valid_len hv
    dsimp only; rw [toL_b]; omega
  · exact (sumP_r p).1
  · exact (sumP_r p).2
  · have hv : validP p = true := by simp_all
    have e : encR p = some s := by unfold encR; rw [if_pos hv, hq]
    rw [e]
    exact ⟨⟨some 9, leF_tup ⟨leC_os rfl rfl, leC_int rfl, trivial⟩, leN_ents⟩⟩
abbrev encE : Entry := newE PA (fun a => PkW a.1 ∧ a.1.2.length ≤ 140737488355328) (fun a => encR a.1) (fun s => some (s.getD []).length) (fun s => some [i64V (ecR s)]) (fun s => ents eB 5 (s.getD []))
def LPf : CsL := (19, some encE) :: LPe
theorem LPf_ok : AllOk Try.prog LPf := ⟨newE_ok ⟨_, Try.func19, rfl, by kernel_rfl⟩ (fun s l h x hx => by injection h with h; subst h; obtain rfl := List.mem_singleton.1 hx; exact nfE_c nf_int) fun a h => pencode_ok a.1 h.1 h.2, LPe_ok⟩
end Go.Proofs.Ytjknkfjhcapocaa.AX
