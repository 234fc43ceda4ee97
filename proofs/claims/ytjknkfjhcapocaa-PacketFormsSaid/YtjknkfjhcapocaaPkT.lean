/- Layer 13 by AX2: upper, Pseudo, Sum, encode, Encode of the reference. -/
import Derived.Test.YtjknkfjhcapocaaPkR
namespace Go.Proofs.Ytjknkfjhcapocaa.AX
open Go.RowKit
set_option linter.unusedVariables false
set_option linter.unusedSimpArgs false
def upB (p : Pkt) (s : Int) : List Int := (if p.1.nxt = 17 then encU p s else []) ++ p.2
theorem wlen {p : Pkt} (hl : p.2.length ≤ 70368744177664) : IntKind.u64.wrap (IntKind.i64.wrap (sizeP p - 40)) = sizeP p - 40 := by
  have : 40 ≤ sizeP p ∧ sizeP p ≤ 70368744200000 := by unfold sizeP; split <;> omega
  rw [IntWalk.i64_in _ (by omega)]
  exact IntWalk.u64_in _ (by omega)
theorem leN_app2 {c : Wc} {n : Nat} {F : Nat → Nat → CV} {l : List Int} {t : TypeId} (hn : n = l.length) (h : IsRow F l) : LeN c ⟨t, n, 1, false, F⟩ (ents eB t l) := leN_is hn h
theorem toL_nil (f : Nat → Nat → CV) : toL eB 0 f = [] := rfl
theorem app_le {s t : List Int} {v n : Int} (h : s = t ++ beB v n) : s.length ≤ t.length + 8 := by
  rw [h, List.length_append]
  have := beB_len v n
  omega
theorem ip_at {a : Fin 16 → Int} {k i : Nat} (e : i = k) (hk : k < (ipL a).length) : CV.int .u8 (vget a i) = .int .u8 ((ipL a).getD k default) := by
  rw [ipL_len] at hk
  rw [e]
  unfold ipL
  rw [List.getD_eq_getElem?_getD, List.getElem?_map, List.getElem?_range hk]; rfl
def LRp0 : CsL := (22, some validE) :: LPi
theorem LRp0_ok : AllOk Try.prog LRp0 := ⟨pureE_ok ⟨_, Try.func22, rfl, by kernel_rfl⟩ fun a h => rpvalid_ok a.1 h, LPi_ok⟩
set_option maxHeartbeats 8000000 in
set_option maxRecDepth 20000 in
theorem upper_ok (p : Pkt) (s0 : Int) (hp : PkW p) (hl : p.2.length ≤ 70368744177664) (hs0 : 0 ≤ s0 ∧ s0 < 65536) : NewOk Try.prog 70 [cPk.enc p, (cI .u16).enc s0] (some (upB p s0).length) none (ents eB 5 (upB p s0)) := by
  obtain ⟨w, eW⟩ : ∃ w, upB p s0 = w := ⟨_, rfl⟩
  have h1 := hp.sp
  have h2 := hp.dp
  have w1 : IntKind.u64.wrap p.1.sp = p.1.sp := IntWalk.u64_in _ (by omega)
  have w2 : IntKind.u64.wrap p.1.dp = p.1.dp := IntWalk.u64_in _ (by omega)
  have w3 : IntKind.u64.wrap s0 = s0 := IntWalk.u64_in _ (by omega)
  have w4 := wlen hl
  rw [eW]
  refine new_intro (wd := 1) (Q := mkQ LRp0) (by decide) tysOk (q_of LRp0_ok) mixed Try.func70 rfl _ (by show 2 ≤ _; decide) (fun i _ j _ => row_nf eB _ i j) ?_
  repeat' (first | (apply And.intro <;> intro hc <;> (first | exact Bool.noConfusion hc | (simp only [decide_eq_true_eq, decide_eq_false_iff_not, Bool.not_eq_true', Bool.not_eq_false', beq_iff_eq, beq_eq_false_iff_ne, bne_iff_ne, bne_eq_false_iff_eq, Bool.true_eq_false, Bool.false_eq_true, ne_eq, not_true_eq_false] at hc <;> first | exact absurd rfl hc | skip) | skip)) | (refine And.intro (by first | exact trivial | decide | omega | (dsimp only; omega) | exact fun _ _ => rfl | exact ⟨by assumption, by first | exact trivial | decide | omega | (dsimp only; omega)⟩) ?_) | (apply And.intro) | (intro s hs; (first | (have q : s = sizeP p := hs.trans (congrArg sizeP (pk_eq p _)); clear hs; subst q) | (dsimp only at hs; (first | rw [toL_b0] at hs | rw [toL_nil] at hs); have hln := app_le hs; try rw [List.length_nil] at hln) | skip)))
  all_goals first
    | exact rfl
    | (dsimp only; rw [toL_b0]; omega)
    | (dsimp only; rw [toL_b]; omega)
    | (dsimp only; rw [toL_nil]; decide)
    | omega
    | (dsimp only; omega)
    | skip
  · rename_i z1 hz1 _ z2 hz2 _ z3 hz3 _
    have e : w = s ++ p.2 := by
      rw [← eW]
      unfold upB encU
      rw [if_pos hc, hs, hz3, hz2, hz1, w1, w2, w3, w4]; rfl
    rw [e]
    refine ⟨⟨some _, leF_c (leC_os rfl (by rw [List.length_append])), leN_is (by rw [List.length_append]) (isRow_sel rfl (isRow_row _) fun k hk => ?_)⟩⟩
    rw [show s.length + k - s.length = k by omega]; rfl
  · have e : w = p.2 := by
      rw [← eW]
      unfold upB
      rw [if_neg hc]; rfl
    rw [e]
    exact ⟨⟨some _, leF_c (leC_os rfl rfl), leN_is rfl (isRow_row _)⟩⟩
abbrev upE : Entry := newE (AC.cons cPk (AC.cons (cI .u16) AC.nil)) (fun a => PkW a.1 ∧ a.1.2.length ≤ 70368744177664 ∧ 0 ≤ a.2.1 ∧ a.2.1 < 65536) (fun a => upB a.1 a.2.1) (fun L => some L.length) (fun _ => none) (fun L => ents eB 5 L)
def psB (src dst : Fin 16 → Int) (n nx : Int) : List Int := ipL src ++ ipL dst ++ beB (IntKind.u64.wrap n) 4 ++ [0, 0, 0, nx]
theorem ps_row (Z : Nat → Nat → CV) (src dst : Fin 16 → Int) : IsRow (fun k j => (fun k j => selC (k.blt (0 + (16 - 0))) ((fun k j => selC (k.blt 0) (Z k j) ((fun k q => (fun x => (eA IntKind.u8 16).cell src) 0 (0 + 0 * 1 + (k * 1 + q))) (k - 0) j)) k j) ((fun k q => (fun x => (eA IntKind.u8 16).cell dst) 0 (0 + 0 * 1 + (k * 1 + q))) (k - (0 + (16 - 0))) j)) (0 + k) j) ([] ++ ipL src ++ ipL dst) := by
  refine isRow_0 (F := fun k j => selC (k.blt (0 + (16 - 0))) (selC (k.blt 0) (Z k j) ((eA IntKind.u8 16).cell src (0 + 0 * 1 + ((k - 0) * 1 + j)))) ((eA IntKind.u8 16).cell dst (0 + 0 * 1 + ((k - (0 + (16 - 0))) * 1 + j)))) (isRow_sel (A := fun k j => selC (k.blt 0) (Z k j) ((eA IntKind.u8 16).cell src (0 + 0 * 1 + ((k - 0) * 1 + j)))) (C := fun k j => (eA IntKind.u8 16).cell dst (0 + 0 * 1 + ((k - (0 + (16 - 0))) * 1 + j))) (n := 16) rfl (isRow_sel (A := Z) (C := fun k j => (eA IntKind.u8 16).cell src (0 + 0 * 1 + ((k - 0) * 1 + j))) (n := 0) (l1 := []) rfl ⟨fun k hk => absurd hk (Nat.not_lt_zero _)⟩ fun k hk => ?_) fun k hk => ?_)
  · exact ip_at (by omega) hk
  · exact ip_at (by omega) hk
set_option maxHeartbeats 8000000 in
set_option maxRecDepth 20000 in
theorem pseudo_ok (src dst : Fin 16 → Int) (n nx : Int) : NewOk Try.prog 69 [(cE (eA .u8 16)).enc src, (cE (eA .u8 16)).enc dst, (cI .i64).enc n, (cI .u8).enc nx] (some (psB src dst n nx).length) none (ents eB 5 (psB src dst n nx)) := by
  obtain ⟨w, eW⟩ : ∃ w, psB src dst n nx = w := ⟨_, rfl⟩
  rw [eW]
  refine new_intro (wd := 1) (Q := mkQ LRp0) (by decide) tysOk (q_of LRp0_ok) mixed Try.func69 rfl _ (by show 4 ≤ _; decide) (fun i _ j _ => row_nf eB _ i j) ?_
  repeat' (first | (apply And.intro <;> intro hc <;> (first | exact Bool.noConfusion hc | (simp only [decide_eq_true_eq, decide_eq_false_iff_not, Bool.not_eq_true', Bool.not_eq_false', beq_iff_eq, beq_eq_false_iff_ne, bne_iff_ne, bne_eq_false_iff_eq, Bool.true_eq_false, Bool.false_eq_true, ne_eq, not_true_eq_false] at hc <;> first | exact absurd rfl hc | skip) | skip)) | (refine And.intro (by first | exact trivial | decide | omega | (dsimp only; omega) | exact fun _ _ => rfl | exact ⟨by assumption, by first | exact trivial | decide | omega | (dsimp only; omega)⟩) ?_) | (apply And.intro) | (intro s hs; (have q : s = ([] ++ ipL src ++ ipL dst) ++ beB (IntKind.u64.wrap n) 4 := hs.trans (congrArg (fun l => l ++ beB (IntKind.u64.wrap n) 4) (toL_is (l := [] ++ ipL src ++ ipL dst) rfl (ps_row (fun _ => nth [CV.int IntKind.u8 0]) src dst)))); clear hs))
  all_goals first
    | exact rfl
    | (show (toL eB _ _).length ≤ _; rw [toL_len]; omega)
    | (have := congrArg List.length q; have h2 := beB_len (IntKind.u64.wrap n) 4; simp only [List.length_append, ipL_len, List.length_nil] at this; omega)
    | skip
  · exact fun i hi => ok_is (ps_row (fun _ => nth [CV.int IntKind.u8 0]) src dst) hi
  · have e : w = s ++ [0, 0, 0, nx] := by
      rw [← eW, q]; rfl
    rw [e]
    refine ⟨⟨some _, leF_c (leC_os rfl (by rw [List.length_append]; rfl)), leN_is (by rw [List.length_append]; rfl) (isRow_sel rfl (isRow_row _) fun k hk => ?_)⟩⟩
    rw [show s.length + k - s.length = k by omega]
    rcases k with _ | _ | _ | _ | k
    · rfl
    · rfl
    · rfl
    · rfl
    · exact absurd hk (by show ¬ _ < 4; omega)
abbrev pseudoE : Entry := newE (AC.cons (cE (eA .u8 16)) (AC.cons (cE (eA .u8 16)) (AC.cons (cI .i64) (AC.cons (cI .u8) AC.nil)))) (fun _ => True) (fun a => psB a.1 a.2.1 a.2.2.1 a.2.2.2.1) (fun L => some L.length) (fun _ => none) (fun L => ents eB 5 L)
def LRp1 : CsL := (70, some upE) :: (69, some pseudoE) :: LRp0
theorem LRp1_ok : AllOk Try.prog LRp1 := ⟨newE_ok ⟨_, Try.func70, rfl, by kernel_rfl⟩ (fun s l h => by cases h) fun a h => upper_ok a.1 a.2.1 h.1 h.2.1 h.2.2, newE_ok ⟨_, Try.func69, rfl, by kernel_rfl⟩ (fun s l h => by cases h) fun a _ => pseudo_ok a.1 a.2.1 a.2.2.1 a.2.2.2.1, LRp0_ok⟩
theorem dst_eq (h : Hdr) (last : CV) : ((eA .u8 16).rd fun q => tailC eHd h last (0 + 20 + q)) = h.dst := by
  funext q
  show valI (tailC eHd h last (0 + 20 + q.1)) = h.dst q
  rw [show 0 + 20 + q.1 = 20 + q.1 by omega, tailC_lt (show 20 + q.1 < 38 by omega), eHd_dst_at _ _ q.2]
  exact vget_lt _ q.2
theorem upB_17 {p : Pkt} (h : p.1.nxt = 17) (s : Int) : upB p s = encU p s ++ p.2 := by unfold upB; rw [if_pos h]
theorem sum_key {p : Pkt} (hl : p.2.length ≤ 70368744177664) (h : p.1.nxt = 17) : [psB p.1.src p.1.dst (IntKind.i64.wrap (sizeP p - 40)) 17, upB p 0].flatten = covL p := by
  unfold psB
  rw [wlen hl, upB_17 h, ipL_list, ipL_list]
  unfold encU
  rw [beB2, beB2, beB2, beB2]
  simp only [List.flatten_cons, List.flatten_nil, List.append_nil, List.append_assoc]
  rfl
theorem psB_BL {src dst : Fin 16 → Int} (h1 : ∀ i, 0 ≤ vget src i ∧ vget src i < 256) (h2 : ∀ i, 0 ≤ vget dst i ∧ vget dst i < 256) {n nx : Int} (h3 : 0 ≤ nx ∧ nx < 256) : BL (psB src dst n nx) :=
  (((ipL_BL h1).append (ipL_BL h2)).append (beB_BL _ _)).append (BL.cons (by omega) (BL.cons (by omega) (BL.cons (by omega) (BL.cons h3 BL.nil))))
theorem upB_BL {p : Pkt} (hp : PkW p) (s : Int) : BL (upB p s) := by
  unfold upB encU
  refine BL.append ?_ hp.pay
  split
  · exact (((beB_BL _ _).append (beB_BL _ _)).append (beB_BL _ _)).append (beB_BL _ _)
  · exact BL.nil
theorem upB_len (p : Pkt) (s : Int) : (upB p s).length ≤ p.2.length + 8 := by
  unfold upB encU
  split
  · simp only [List.length_append, beB2]; simp; omega
  · simp
theorem psB_len (src dst : Fin 16 → Int) (n nx : Int) : (psB src dst n nx).length ≤ 44 := by
  unfold psB
  have := beB_len (IntKind.u64.wrap n) 4
  simp only [List.length_append, ipL_len, List.length_cons, List.length_nil]
  omega
set_option maxHeartbeats 8000000 in
set_option maxRecDepth 20000 in
theorem rsumP_ok (p : Pkt) (hp : PkW p) (hl : p.2.length ≤ 140737488355328) : PureOk Try.prog 26 [cPk.enc p] ((cI .u16).enc (sumP p)) := by
  refine pure_intro (wd := 1) (Q := mkQ LRp1) (by decide) tysOk (q_of LRp1_ok) mixed Try.func26 rfl _ (by show 1 ≤ _; decide) _ ?_
  repeat' (first | (apply And.intro <;> intro hc <;> (first | exact Bool.noConfusion hc | (simp only [decide_eq_true_eq, decide_eq_false_iff_not, Bool.not_eq_true', Bool.not_eq_false', beq_iff_eq, beq_eq_false_iff_ne, bne_iff_ne, bne_eq_false_iff_eq, Bool.true_eq_false, Bool.false_eq_true, ne_eq, not_true_eq_false] at hc <;> first | exact absurd rfl hc | skip) | skip)) | (refine And.intro (by first | exact trivial | decide | omega | (dsimp only; omega) | exact fun _ _ => rfl | exact ⟨by assumption, by first | exact trivial | decide | omega | (dsimp only; omega)⟩) ?_) | (apply And.intro) | (intro s hs; (first | (have hs' : s = validP p := hs.trans (congrArg validP (pk_eq p _)); clear hs; subst hs') | (have q : s = sizeP p := hs.trans (congrArg sizeP (pk_eq p _)); clear hs; subst q) | (have hq1 : s = psB p.1.src p.1.dst (IntKind.i64.wrap (sizeP p - 40)) 17 := by (rw [hs]; dsimp only; rw [src_eq, dst_eq])) | (have hq2 : s = upB p 0 := hs.trans (congrArg (fun x => upB x 0) (pk_eq p _))) | skip)))
  all_goals
    try (have hvl := valid_len (p := p) (by assumption))
  all_goals first
    | (dsimp only; rw [toL_b]; omega)
    | (dsimp only; rw [pk_eq]; exact hp)
    | exact rfl
    | (dsimp only; omega)
    | exact Done.mk (leF_int (by unfold sumP; rw [if_neg fun h => by first | exact absurd h.1 (by assumption) | exact absurd h.2 (by assumption) | exact Bool.noConfusion (h.1.symm.trans (by assumption))]))
    | skip
  · refine ⟨fun l h => ?_⟩
    dsimp only at h
    rw [toL_b0, toL_b0] at h
    simp only [List.mem_cons, List.not_mem_nil, or_false] at h
    rcases h with rfl | rfl
    · rw [hq1]; exact psB_BL hp.src hp.dst (by omega)
    · rw [hq2]; exact upB_BL hp 0
  · show 2 ≤ 16; decide
  · dsimp only
    rw [toL_b0, toL_b0]
    have h1 := psB_len p.1.src p.1.dst (IntKind.i64.wrap (sizeP p - 40)) 17
    have h2 := upB_len p 0
    rw [← hq1] at h1
    rw [← hq2] at h2
    simp only [List.flatten_cons, List.flatten_nil, List.length_append, List.length_nil]
    omega
  all_goals
    have hv : validP p = true := by assumption
    have h17 : p.1.nxt = 17 := by assumption
    have e : s = inetF (covL p) := by
      refine hs.trans ?_
      clear hs
      dsimp only
      rw [toL_b0, toL_b0, hq1, hq2, sum_key (by have := valid_len hv; omega) h17]
    clear hs
    refine Done.mk (leF_int ?_)
    rw [sumP_covL hv h17]
    unfold sum0
    rw [← e]
    clear e hv h17 hq1 hq2
    first | (rw [if_pos (by assumption)]) | (rw [if_neg (by assumption)])
abbrev rsumE : Entry := pureE PA (fun a => PkW a.1 ∧ a.1.2.length ≤ 140737488355328) (fun a => sumP a.1) (cI .u16).enc
def LRp2 : CsL := (26, some rsumE) :: LRp1
theorem LRp2_ok : AllOk Try.prog LRp2 := ⟨pureE_ok ⟨_, Try.func26, rfl, by kernel_rfl⟩ fun a h => rsumP_ok a.1 h.1 h.2, LRp1_ok⟩
end Go.Proofs.Ytjknkfjhcapocaa.AX
