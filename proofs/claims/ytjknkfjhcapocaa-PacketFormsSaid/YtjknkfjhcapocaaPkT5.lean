/- Layer 13 by AX2: Forward, Same of the reference. -/
import Derived.Test.YtjknkfjhcapocaaPkT4
namespace Go.Proofs.Ytjknkfjhcapocaa.AX
open Go.RowKit
set_option linter.unusedVariables false
set_option linter.unusedSimpArgs false
theorem pkF_w' {b : List Int} (hb : BL b) (h : (decF b).2 = 0) : PkM (decF b).1 := by
  obtain ⟨e, hp, _⟩ := dec_enc hb h
  rw [e]; exact hp
theorem hops_eq {P : Pkt} {G : Nat → CV} {h : Int} (h0 : ∀ j, j < 38 → G j = eHd.cell (withHops P h).1 j) {F : Nat → Nat → CV} {n : Nat} (hF : toL eB n F = P.2) : ((eHd.rd G, toL eB n F) : Pkt) = withHops P h := by
  rw [hF, hd_congr G (eHd.cell (withHops P h).1) h0, eHd_rd]; rfl
set_option maxHeartbeats 8000000 in
set_option maxRecDepth 20000 in
theorem rforward_ok (b : List Int) (hb : BL b) (hl : b.length ≤ 140737488355328) : NewOk Try.prog 72 [(cSl eB eB_sz).enc b] (some (rfwdF b).1.length) (some [i64V (rfwdF b).2]) (ents eB 5 (rfwdF b).1) := by
  obtain ⟨d, eD⟩ : ∃ d, decF b = d := ⟨_, rfl⟩
  obtain ⟨w, eW⟩ : ∃ w, rfwdF b = w := ⟨_, rfl⟩
  rw [eW]
  unfold rfwdF at eW
  have hm := pkF_w' hb
  rw [eD] at eW hm
  have w8 : ∀ x, IntKind.u8.wrap x = IntKind.u8.wrap x := fun x => rfl
  refine new_intro (wd := 1) (Q := mkQ LRp6) (by decide) tysOk (q_of LRp6_ok) mixed Try.func72 rfl _ (by show 1 ≤ _; decide) (fun i _ j _ => row_nf eB _ i j) ?_
  repeat' (first | (apply And.intro <;> intro hc <;> (first | exact Bool.noConfusion hc | (simp only [decide_eq_true_eq, decide_eq_false_iff_not, Bool.not_eq_true', Bool.not_eq_false', beq_iff_eq, beq_eq_false_iff_ne, bne_iff_ne, bne_eq_false_iff_eq, Bool.true_eq_false, Bool.false_eq_true, ne_eq, not_true_eq_false] at hc <;> first | exact absurd rfl hc | skip) | skip)) | (refine And.intro (by first | exact trivial | decide | omega | (dsimp only; omega) | exact fun _ _ => rfl | exact ⟨by assumption, by first | exact trivial | decide | omega | (dsimp only; omega)⟩) ?_) | (apply And.intro) | (intro s hs; (first | (have q : d = s := (by (rw [hs]; dsimp only; rw [toL_b, eD])); clear hs; subst q) | skip)))
  all_goals first
    | (dsimp only; rw [toL_b]; exact hb)
    | (dsimp only; rw [toL_b]; exact hl)
    | (have e : w = ([], d.2) := by rw [← eW, if_pos hc]
       rw [e]
       exact ⟨⟨none, leF_tup ⟨leC_nils_os rfl, leC_int rfl, trivial⟩, rfl, rfl, (by show 0 < 1; omega)⟩⟩)
    | (have e : w = ([], 2) := by rw [← eW, if_neg (fun h => h (by assumption)), if_pos hc]
       rw [e]
       exact ⟨⟨none, leF_tup ⟨leC_nils_os rfl, leC_int rfl, trivial⟩, rfl, rfl, (by show 0 < 1; omega)⟩⟩)
    | skip
  · have hw := withHops_m (hm (by assumption)) (u8r (d.1.1.hops - 1))
    refine Eq.mp (congrArg PkW (hops_eq (P := d.1) (h := IntKind.u8.wrap (d.1.1.hops - 1)) (fun j hj => ?_) (toL_b d.1.2)).symm) hw.w
    iterate 38 (rcases j with _ | j; exact rfl)
    exact absurd hj (by omega)
  · have hw := valid_len (hm (by assumption)).v
    show (toL eB _ _).length ≤ _
    rw [toL_len]
    omega
  · have q : s = encR (withHops d.1 (IntKind.u8.wrap (d.1.1.hops - 1))) := by
      refine hs.trans (congrArg encR (hops_eq (P := d.1) (h := IntKind.u8.wrap (d.1.1.hops - 1)) (fun j hj => ?_) (toL_b d.1.2)))
      iterate 38 (rcases j with _ | j; exact rfl)
      exact absurd hj (by omega)
    clear hs
    have e : w = (s.getD [], ecR s) := by rw [← eW, if_neg (fun h => h (by assumption)), if_neg hc, ← q]
    rw [e]
    exact ⟨⟨some _, leF_tup ⟨leC_os rfl rfl, leC_int rfl, trivial⟩, leN_ents⟩⟩
def LRp7 : CsL := (72, some fwdE) :: LRp6
theorem LRp7_ok : AllOk Try.prog LRp7 := ⟨newE_ok ⟨_, Try.func72, rfl, by kernel_rfl⟩ (fun s l h x hx => by injection h with h; subst h; obtain rfl := List.mem_singleton.1 hx; exact nfE_c nf_int) fun a h => (rfwd_eq h.1) ▸ rforward_ok a.1 h.1 h.2, LRp6_ok⟩
theorem eqFrom_self {f : Nat → CV} : ∀ (n off : Nat), (∀ i, i < n → eqCell (f (off + i)) (f (off + i)) = true) → eqFrom f f n off = true := fun n off h => eqFrom_iff.2 h
theorem ip_self (a : Fin 16 → Int) (g : Nat → CV) (h : ∀ j, j < 16 → g j = .int .u8 (vget a j)) : eqFrom g g 16 0 = true := eqFrom_self 16 0 fun i hi => by
  rw [Nat.zero_add, h i hi]
  show (vget a i == vget a i) = true
  exact beq_self_eq_true _
set_option maxHeartbeats 8000000 in
set_option maxRecDepth 20000 in
theorem rsame_ok (p : Pkt) (hl : p.2.length ≤ 140737488355328) : PureOk Try.prog 31 [cPk.enc p, cPk.enc p] (cB.enc true) := by
  refine pure_intro (wd := 1) (Q := mkQ LRp7) (by decide) tysOk (q_of LRp7_ok) mixed Try.func31 rfl _ (by show 2 ≤ _; decide) _ ?_
  repeat' (first | (apply And.intro <;> intro hc <;> (first | exact Bool.noConfusion hc | (exfalso; first | exact absurd rfl hc | exact absurd (beq_self_eq_true _) (by rw [hc]; decide) | exact Bool.noConfusion ((ip_self p.1.src _ fun j hj => tailC_src (by omega) hj).symm.trans hc) | exact Bool.noConfusion ((ip_self p.1.dst _ fun j hj => tailC_dst (by omega) hj).symm.trans hc)) | (simp only [decide_eq_true_eq, decide_eq_false_iff_not, Bool.not_eq_true', Bool.not_eq_false', beq_iff_eq, beq_eq_false_iff_ne, bne_iff_ne, bne_eq_false_iff_eq, Bool.true_eq_false, Bool.false_eq_true, ne_eq, not_true_eq_false] at hc <;> first | exact absurd rfl hc | (exfalso; first | exact absurd rfl hc | exact absurd (beq_self_eq_true _) (by rw [hc]; decide) | exact Bool.noConfusion ((ip_self p.1.src _ fun j hj => tailC_src (by omega) hj).symm.trans hc) | exact Bool.noConfusion ((ip_self p.1.dst _ fun j hj => tailC_dst (by omega) hj).symm.trans hc)) | skip) | skip)) | (refine And.intro (by first | exact trivial | decide | omega | (dsimp only; omega) | exact fun _ _ => rfl | exact ⟨by assumption, by first | exact trivial | decide | omega | (dsimp only; omega)⟩) ?_) | (apply And.intro) | (intro s hs; skip))
  · exact fun _ => rfl
  · exact fun _ => rfl
  · dsimp only; rw [toL_b]; omega
  · have q : s = true := by
      rw [hs]
      dsimp only
      exact decide_eq_true rfl
    exact Done.mk (leF_bool q)
/-- Same, asked only where the packets are equal. -/
abbrev rsameE : Entry := pureE (AC.cons cPk (AC.cons cPk AC.nil)) (fun a => a.1 = a.2.1 ∧ a.1.2.length ≤ 140737488355328) (fun a => true) cB.enc
def LRp : CsL := (31, some rsameE) :: LRp7
theorem LRp_ok : AllOk Try.prog LRp := ⟨pureE_ok ⟨_, Try.func31, rfl, by kernel_rfl⟩ fun a h => by
  obtain ⟨p, q, u⟩ := a
  obtain ⟨h1, h2⟩ := h
  have h1 : p = q := h1
  subst h1
  exact rsame_ok p h2, LRp7_ok⟩
end Go.Proofs.Ytjknkfjhcapocaa.AX
