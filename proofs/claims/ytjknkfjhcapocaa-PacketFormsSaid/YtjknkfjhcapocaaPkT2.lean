/- Layer 13 by AX2: encode and Encode of the reference. -/
import Derived.Test.YtjknkfjhcapocaaPkT
namespace Go.Proofs.Ytjknkfjhcapocaa.AX
open Go.RowKit
set_option linter.unusedVariables false
set_option linter.unusedSimpArgs false
theorem encB_up (p : Pkt) (s : Int) : encB p s = ((((beB (1610612736 + p.1.cls * 1048576 + p.1.flow) 4 ++ beB (sizeP p - 40) 2) ++ [p.1.nxt, p.1.hops]) ++ ipL p.1.src) ++ ipL p.1.dst) ++ upB p s := by
  unfold encB upB encU
  rw [List.append_assoc _ _ p.2]
set_option maxHeartbeats 8000000 in
set_option maxRecDepth 20000 in
theorem rencode_ok (p : Pkt) (s0 : Int) (hp : PkW p) (hl : p.2.length ≤ 70368744170000) (hs0 : 0 ≤ s0 ∧ s0 < 65536) : NewOk Try.prog 64 [cPk.enc p, (cI .u16).enc s0] (some (encB p s0).length) none (ents eB 5 (encB p s0)) := by
  obtain ⟨w, eW⟩ : ∃ w, encB p s0 = w := ⟨_, rfl⟩
  rw [eW]
  have c1 := hp.cls
  have c2 := hp.flow
  have w1 : IntKind.u64.wrap p.1.cls = p.1.cls := IntWalk.u64_in _ (by omega)
  have w2 : shlI .u64 (IntKind.u64.wrap p.1.cls) 20 = p.1.cls * 1048576 := by
    rw [w1]
    unfold shlI
    rw [show min (20 : Int).toNat (IntKind.bits .u64) = 20 from rfl]
    exact IntWalk.u64_in _ (by omega)
  have w3 : IntKind.u64.wrap (IntKind.u64.wrap (1610612736 + shlI .u64 (IntKind.u64.wrap p.1.cls) 20) + IntKind.u64.wrap p.1.flow) = 1610612736 + p.1.cls * 1048576 + p.1.flow := by
    rw [w2, IntWalk.u64_in p.1.flow (by omega), IntWalk.u64_in (1610612736 + p.1.cls * 1048576) (by omega)]
    exact IntWalk.u64_in _ (by omega)
  have w4 := wlen (p := p) (by omega)
  refine new_intro (wd := 1) (Q := mkQ LRp2) (by decide) tysOk (q_of LRp2_ok) mixed Try.func64 rfl _ (by show 2 ≤ _; decide) (fun i _ j _ => row_nf eB _ i j) ?_
  repeat' (first | (apply And.intro <;> intro hc <;> (first | exact Bool.noConfusion hc | (simp only [decide_eq_true_eq, decide_eq_false_iff_not, Bool.not_eq_true', Bool.not_eq_false', beq_iff_eq, beq_eq_false_iff_ne, bne_iff_ne, bne_eq_false_iff_eq, Bool.true_eq_false, Bool.false_eq_true, ne_eq, not_true_eq_false] at hc <;> first | exact absurd rfl hc | skip) | skip)) | (refine And.intro (by first | exact trivial | decide | omega | (dsimp only; omega) | exact fun _ _ => rfl | exact ⟨by assumption, by first | exact trivial | decide | omega | (dsimp only; omega)⟩) ?_) | (apply And.intro) | (intro s hs; (first | (have q : s = sizeP p := hs.trans (congrArg sizeP (pk_eq p _)); clear hs; subst q) | (have hq2 : s = upB p s0 := hs.trans (congrArg (fun x => upB x s0) (pk_eq p _)); clear hs; have hun := upB_len p s0; rw [← hq2] at hun) | (dsimp only at hs; (first | rw [toL_b0] at hs | rw [toL_nil] at hs); have hln := app_le hs; try rw [List.length_nil] at hln) | skip)))
  all_goals first
    | (dsimp only; rw [toL_b]; omega)
    | (dsimp only; rw [toL_b0]; omega)
    | (dsimp only; rw [toL_nil]; decide)
    | (dsimp only; rw [pk_eq]; exact hp)
    | exact rfl
    | (dsimp only; omega)
    | omega
    | skip
  · rename_i z1 hz1 l1 s2
    have hz2 := hs
    clear hs
    have e : w = (((s2 ++ [p.1.nxt, p.1.hops]) ++ ipL p.1.src) ++ ipL p.1.dst) ++ s := by
      rw [← eW, encB_up, hz2, hz1, hq2, w3, w4]; rfl
    rw [e]
    clear e hz1 hz2 hq2 hun
    refine ⟨⟨some _, leF_c (leC_os rfl ?_), leN_is ?_ (isRow_sel ?_ (isRow_sel ?_ (isRow_sel ?_ (isRow_sel rfl (isRow_row _) fun k hk => ?_) fun k hk => ?_) fun k hk => ?_) fun k hk => ?_)⟩⟩
    · simp only [List.length_append, ipL_len, List.length_cons, List.length_nil]
    · simp only [List.length_append, ipL_len, List.length_cons, List.length_nil]
    · simp only [List.length_append, ipL_len, List.length_cons, List.length_nil]
    · simp only [List.length_append, ipL_len, List.length_cons, List.length_nil]
    · simp only [List.length_append, ipL_len, List.length_cons, List.length_nil]
    · rw [show s2.length + k - s2.length = k by omega]
      rcases k with _ | _ | k
      · rfl
      · rfl
      · exact absurd hk (by show ¬ _ < 2; omega)
    · have h16 : k < 16 := by rw [ipL_len] at hk; exact hk
      exact (tailC_src (k := k) (by omega) h16).trans (ip_at rfl hk)
    · have h16 : k < 16 := by rw [ipL_len] at hk; exact hk
      exact (tailC_dst (k := k) (by omega) h16).trans (ip_at rfl hk)
    · show CV.int .u8 (s.getD (0 + (s2.length + 2 + (16 - 0) + (16 - 0) + k - (s2.length + 2 + (16 - 0) + (16 - 0)))) default) = _
      rw [show 0 + (s2.length + 2 + (16 - 0) + (16 - 0) + k - (s2.length + 2 + (16 - 0) + (16 - 0))) = k by omega]
abbrev rencE0 : Entry := newE (AC.cons cPk (AC.cons (cI .u16) AC.nil)) (fun a => PkW a.1 ∧ a.1.2.length ≤ 70368744170000 ∧ 0 ≤ a.2.1 ∧ a.2.1 < 65536) (fun a => encB a.1 a.2.1) (fun L => some L.length) (fun _ => none) (fun L => ents eB 5 L)
def LRp3 : CsL := (64, some rencE0) :: LRp2
theorem LRp3_ok : AllOk Try.prog LRp3 := ⟨newE_ok ⟨_, Try.func64, rfl, by kernel_rfl⟩ (fun s l h => by cases h) fun a h => rencode_ok a.1 a.2.1 h.1 h.2.1 h.2.2, LRp2_ok⟩
set_option maxHeartbeats 8000000 in
set_option maxRecDepth 20000 in
theorem rEncode_ok (p : Pkt) (hp : PkW p) (hl : p.2.length ≤ 140737488355328) : NewOk Try.prog 20 [cPk.enc p] (some ((encR p).getD []).length) (some [i64V (ecR (encR p))]) (ents eB 5 ((encR p).getD [])) := by
  refine new_intro (wd := 1) (Q := mkQ LRp3) (by decide) tysOk (q_of LRp3_ok) mixed Try.func20 rfl _ (by show 1 ≤ _; decide) (fun i _ j _ => row_nf eB _ i j) ?_
  repeat' (first | (apply And.intro <;> intro hc <;> (first | exact Bool.noConfusion hc | (simp only [decide_eq_true_eq, decide_eq_false_iff_not, Bool.not_eq_true', Bool.not_eq_false', beq_iff_eq, beq_eq_false_iff_ne, bne_iff_ne, bne_eq_false_iff_eq, Bool.true_eq_false, Bool.false_eq_true, ne_eq, not_true_eq_false] at hc <;> first | exact absurd rfl hc | skip) | skip)) | (refine And.intro (by first | exact trivial | decide | omega | (dsimp only; omega) | exact fun _ _ => rfl | exact ⟨by assumption, by first | exact trivial | decide | omega | (dsimp only; omega)⟩) ?_) | (apply And.intro) | (intro s hs; (first | (have hs' : s = validP p := hs.trans (congrArg validP (pk_eq p _)); clear hs; subst hs') | (have hs' : s = sumP p := hs.trans (congrArg sumP (pk_eq p _)); clear hs; subst hs') | (have hq : s = encB p (sumP p) := hs.trans (congrArg (fun x => encB x (sumP p)) (pk_eq p _)); clear hs) | skip)))
  all_goals
    try (have hvv : validP p = true := by assumption)
    try (have hvl := valid_len hvv)
  all_goals first
    | (dsimp only; rw [pk_eq]; exact hp)
    | (dsimp only; rw [toL_b]; omega)
    | exact (sumP_r p).1
    | exact (sumP_r p).2
    | skip
  · have e : encR p = none := if_neg (fun h => by simp_all)
    rw [e]
    exact ⟨⟨none, leF_tup ⟨leC_nils_os rfl, leC_int rfl, trivial⟩, rfl, rfl, by decide⟩⟩
  · have hv : validP p = true := by simp_all
    have e : encR p = some s := by unfold encR; rw [if_pos hv, hq]
    rw [e]
    exact ⟨⟨some _, leF_tup ⟨leC_os rfl rfl, leC_int rfl, trivial⟩, leN_ents⟩⟩
abbrev rencE : Entry := newE PA (fun a => PkW a.1 ∧ a.1.2.length ≤ 140737488355328) (fun a => encR a.1) (fun s => some (s.getD []).length) (fun s => some [i64V (ecR s)]) (fun s => ents eB 5 (s.getD []))
def LRp4 : CsL := (20, some rencE) :: LRp3
theorem LRp4_ok : AllOk Try.prog LRp4 := ⟨newE_ok ⟨_, Try.func20, rfl, by kernel_rfl⟩ (fun s l h x hx => by injection h with h; subst h; obtain rfl := List.mem_singleton.1 hx; exact nfE_c nf_int) fun a h => rEncode_ok a.1 h.1 h.2, LRp3_ok⟩
end Go.Proofs.Ytjknkfjhcapocaa.AX
