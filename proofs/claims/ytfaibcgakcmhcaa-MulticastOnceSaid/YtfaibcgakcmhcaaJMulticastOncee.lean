/- Texts of one's own in one file: Ms2, Ms4, Ms5, Ms6, Ms3, Ms7, TkG, MulticastOnceA, MulticastOnceW. -/
import Derived.Test.YtfaibcgakcmhcaaJMulticastOnced
import Derived.Test.YtfaibcgakcmhcaaJMulticastOncec
/- Package multicast by AX2: Step, the closing of the senders, one round for each place. -/
namespace Go.Proofs.Ytfaibcgakcmhcaa.AX
open Go.RowKit
set_option linter.unusedVariables false
set_option linter.unusedSimpArgs false
set_option maxHeartbeats 8000000 in
set_option maxRecDepth 20000 in
theorem st1_0 (L : List Sed) (now draw : Int) (hv : validL L = true) (s : SlI L now) (hi : s.i = 0) (hil : s.i < L.length) (K : Kt) :
    exec T (mkQ LMs) 1024 Try.f21.ntmps 0 (loopIn (dropC 4 (Try.f21.body.getD Code.ret))) (S1 L now draw s).fr (S1 L now draw s).H (S1 L now draw s).nx (seqK (fun fr H _ => Goes (S1 L now draw) (fun s => L.length - s.i) 0 (L.length - s.i) fr H) K) := by
  obtain ⟨i, M, hn, hi0, h1, h2⟩ := s
  dsimp only at hi hil
  subst hi
  have h8 := vl_len hv
  have hiM : 0 < M.length := by omega
  have hS : SdOk (M.getD 0 default) := by rw [h2 _ (Nat.le_refl _)]; exact (vl_mem hv _ (getD_in hil)).2
  have hk := hS.k
  have hh := hS.n
  have hmn := hS.mn
  have w3 : IntKind.i64.wrap ((0 : Int) + 1) = ((0 + 1 : Nat) : Int) := rfl
  unfold S1
  dsimp only
  repeat' (first | (apply And.intro <;> intro hc <;> (first | exact Bool.noConfusion hc | (exfalso; first | exact absurd rfl hc | omega) | (simp only [decide_eq_true_eq, decide_eq_false_iff_not, Bool.not_eq_true', Bool.not_eq_false', beq_iff_eq, beq_eq_false_iff_ne, bne_iff_ne, bne_eq_false_iff_eq, Bool.true_eq_false, Bool.false_eq_true, ne_eq, not_true_eq_false] at hc <;> first | exact absurd rfl hc | (exfalso; first | exact absurd rfl hc | omega) | skip) | skip)) | (refine And.intro (by first | exact trivial | decide | omega | (dsimp only; omega) | exact fun _ _ => rfl | exact ⟨by assumption, by first | exact trivial | decide | omega | (dsimp only; omega)⟩) ?_) | (apply And.intro) | (intro s hs; skip) | (refine Exists.intro _ (And.intro ⟨rfl, rfl, rfl⟩ ?_)))
  conv => whnf
  obtain ⟨W, eW⟩ : ∃ W, lastF now (M.getD 0 default).held (M.getD 0 default).mn = W := ⟨_, rfl⟩
  refine loop_intro (mono_of LMs_ok) (fun s : {p : Nat × Int // p.1 ≤ (M.getD 0 default).held.length ∧ lastF now ((M.getD 0 default).held.drop p.1) p.2 = W} => (⟨[(1, one (.int .i64 now)), (2, one (.int .u32 draw)), (9, one (.os 1 0 M.length)), (31, one (.int .i64 (L.length : Int))), (32, one (.int .i64 ((0 : Nat) : Int))), (10, one (.int .i64 ((0 : Nat) : Int))), (11, one (.int .i64 s.1.2)), (44, one (.os 2 0 (M.getD 0 default).held.length)), (45, one (.int .i64 ((M.getD 0 default).held.length : Int))), (46, one (.int .i64 (s.1.1 : Int)))], (1, some (entP 2 M.length M)) :: hepP 2 M, 10⟩ : Hd)) (fun s => (M.getD 0 default).held.length - s.1.1) (fun _ => rfl) ?_ ⟨(0, (M.getD 0 default).mn), Nat.zero_le _, eW⟩ [] ⟨rfl, ⟨leF_int rfl, leF_int rfl, leF_c (leC_os rfl rfl), leF_int rfl, leF_int rfl, leF_int rfl, leF_int rfl, leF_c (leC_os rfl rfl), leF_int rfl, leF_int rfl, trivial⟩, ⟨⟨rfl, leN_entP (by omega) (lt8 rfl rfl rfl rfl rfl rfl rfl rfl)⟩, ⟨rfl, leN_entN⟩, ⟨rfl, leN_entN⟩, ⟨rfl, leN_entN⟩, ⟨rfl, leN_entN⟩, ⟨rfl, leN_entN⟩, ⟨rfl, leN_entN⟩, ⟨rfl, leN_entN⟩, ⟨rfl, leN_entN⟩, trivial⟩⟩
  rintro ⟨⟨k, l⟩, hkl, hW⟩
  dsimp only at hkl hW ⊢
  by_cases hkn : k < (M.getD 0 default).held.length
  · have w4 : IntKind.i64.wrap ((k : Int) + 1) = ((k + 1 : Nat) : Int) := (IntWalk.i64_in _ (by omega)).trans (by omega)
    have hst : lastF now ((M.getD 0 default).held.drop (k + 1)) (if ((M.getD 0 default).held.getD k default).til ≤ now then ((M.getD 0 default).held.getD k default).num + 1 else l) = W := by rw [← hW, drop_at hkn]; rfl
    have hm := vh_mem hS.h _ (getD_in hkn)
    have w5 : IntKind.i64.wrap (((M.getD 0 default).held.getD k default).num + 1) = ((M.getD 0 default).held.getD k default).num + 1 := IntWalk.i64_in _ (by omega)
    have z0 : 0 + (k : Int).toNat = k := Nat.zero_add k
    repeat' (first | (simp only [z0, w4, w5]) | (apply And.intro <;> intro hc <;> (first | exact Bool.noConfusion hc | (exfalso; first | exact absurd rfl hc | omega) | (simp only [decide_eq_true_eq, decide_eq_false_iff_not, Bool.not_eq_true', Bool.not_eq_false', beq_iff_eq, beq_eq_false_iff_ne, bne_iff_ne, bne_eq_false_iff_eq, Bool.true_eq_false, Bool.false_eq_true, ne_eq, not_true_eq_false] at hc <;> first | exact absurd rfl hc | (exfalso; first | exact absurd rfl hc | omega) | skip) | skip)) | (refine And.intro (by first | exact trivial | decide | omega | (dsimp only; omega) | exact fun _ _ => rfl | exact ⟨by assumption, by first | exact trivial | decide | omega | (dsimp only; omega)⟩) ?_) | (apply And.intro) | (intro s hs; skip) | (refine Exists.intro _ (And.intro ⟨rfl, rfl, rfl⟩ ?_)))
    · rw [if_pos hc] at hst
      conv => whnf
      exact ⟨⟨(k + 1, _), hkn, hst⟩, [], by dsimp only; omega, rfl, ⟨leF_int rfl, leF_int rfl, leF_c (leC_os rfl rfl), leF_int rfl, leF_int rfl, leF_int rfl, leF_int w5, leF_c (leC_os rfl rfl), leF_int rfl, leF_int w4, trivial⟩, ⟨⟨rfl, leN_entP (by omega) (lt8 rfl rfl rfl rfl rfl rfl rfl rfl)⟩, ⟨rfl, leN_entN⟩, ⟨rfl, leN_entN⟩, ⟨rfl, leN_entN⟩, ⟨rfl, leN_entN⟩, ⟨rfl, leN_entN⟩, ⟨rfl, leN_entN⟩, ⟨rfl, leN_entN⟩, ⟨rfl, leN_entN⟩, trivial⟩⟩
    · rw [if_neg hc] at hst
      conv => whnf
      exact ⟨⟨(k + 1, l), hkn, hst⟩, [], by dsimp only; omega, rfl, ⟨leF_int rfl, leF_int rfl, leF_c (leC_os rfl rfl), leF_int rfl, leF_int rfl, leF_int rfl, leF_int rfl, leF_c (leC_os rfl rfl), leF_int rfl, leF_int w4, trivial⟩, ⟨⟨rfl, leN_entP (by omega) (lt8 rfl rfl rfl rfl rfl rfl rfl rfl)⟩, ⟨rfl, leN_entN⟩, ⟨rfl, leN_entN⟩, ⟨rfl, leN_entN⟩, ⟨rfl, leN_entN⟩, ⟨rfl, leN_entN⟩, ⟨rfl, leN_entN⟩, ⟨rfl, leN_entN⟩, ⟨rfl, leN_entN⟩, trivial⟩⟩
  · obtain rfl : l = W := by
      rw [List.drop_of_length_le (by omega)] at hW; exact hW
    clear hW
    repeat' (first | (apply And.intro <;> intro hc <;> (first | exact Bool.noConfusion hc | (exfalso; first | exact absurd rfl hc | omega) | (simp only [decide_eq_true_eq, decide_eq_false_iff_not, Bool.not_eq_true', Bool.not_eq_false', beq_iff_eq, beq_eq_false_iff_ne, bne_iff_ne, bne_eq_false_iff_eq, Bool.true_eq_false, Bool.false_eq_true, ne_eq, not_true_eq_false] at hc <;> first | exact absurd rfl hc | (exfalso; first | exact absurd rfl hc | omega) | skip) | skip)) | (refine And.intro (by first | exact trivial | decide | omega | (dsimp only; omega) | exact fun _ _ => rfl | exact ⟨by assumption, by first | exact trivial | decide | omega | (dsimp only; omega)⟩) ?_) | (apply And.intro) | (intro s hs; skip) | (refine Exists.intro _ (And.intro ⟨rfl, rfl, rfl⟩ ?_)))
    · exact rfl
    · conv => whnf
      have eM : M.set 0 (clsS now (M.getD 0 default)) = M := by
        unfold clsS; rw [eW, show raiseS (M.getD 0 default) l = M.getD 0 default from if_pos hc]; exact set_self hiM
      exact ⟨SlI.next ⟨0, M, hn, hi0, h1, h2⟩ hil M eM, [], by dsimp only [SlI.next]; omega, rfl, ⟨leF_int rfl, leF_int rfl, leF_c (leC_os rfl rfl), leF_int rfl, leF_int rfl, trivial⟩, ⟨⟨rfl, leN_entP (by omega) (lt8 rfl rfl rfl rfl rfl rfl rfl rfl)⟩, ⟨rfl, leN_entN⟩, ⟨rfl, leN_entN⟩, ⟨rfl, leN_entN⟩, ⟨rfl, leN_entN⟩, ⟨rfl, leN_entN⟩, ⟨rfl, leN_entN⟩, ⟨rfl, leN_entN⟩, ⟨rfl, leN_entN⟩, trivial⟩⟩
    · exact Nat.le_of_eq (Nat.zero_add _)
    · exact ⟨rfl, okD_sl _⟩
    · exact Eq.mpr (congrArg KpI (toN_row0 neH_rd _)) hk
    · conv => whnf
      have q : (M.getD 0 default).held.filter (wantB (some l)) = s := (hs.trans (congrArg (List.filter (wantB (some l))) (toN_row0 neH_rd _))).symm
      clear hs
      have eX : clsS now (M.getD 0 default) = ⟨(M.getD 0 default).id, l, s⟩ := by
        unfold clsS; rw [eW]; exact (if_neg hc).trans (by rw [q])
      refine ⟨SlI.next ⟨0, M, hn, hi0, h1, h2⟩ hil _ (congrArg (M.set 0) eX), [(2, some 5148)], by dsimp only [SlI.next]; omega, rfl, ⟨leF_int rfl, leF_int rfl, leF_c (leC_os rfl (List.length_set).symm), leF_int rfl, leF_int rfl, trivial⟩, ⟨⟨rfl, ⟨rfl, (List.length_set).symm, rfl, rfl, fun p hp j hj => ?_⟩⟩, ⟨rfl, leN_eqN (congrArg Sed.held (set_at (s := ⟨(M.getD 0 default).id, l, s⟩) hiM).symm)⟩, ⟨rfl, leN_eqN (congrArg Sed.held (set_ne (by decide)).symm)⟩, ⟨rfl, leN_eqN (congrArg Sed.held (set_ne (by decide)).symm)⟩, ⟨rfl, leN_eqN (congrArg Sed.held (set_ne (by decide)).symm)⟩, ⟨rfl, leN_eqN (congrArg Sed.held (set_ne (by decide)).symm)⟩, ⟨rfl, leN_eqN (congrArg Sed.held (set_ne (by decide)).symm)⟩, ⟨rfl, leN_eqN (congrArg Sed.held (set_ne (by decide)).symm)⟩, ⟨rfl, leN_eqN (congrArg Sed.held (set_ne (by decide)).symm)⟩, trivial⟩⟩
      have hp : p < M.length := hp
      have hj : j < 3 := hj
      rcases (show p = 0 ∨ p = 1 ∨ p = 2 ∨ p = 3 ∨ p = 4 ∨ p = 5 ∨ p = 6 ∨ p = 7 by omega) with rfl | rfl | rfl | rfl | rfl | rfl | rfl | rfl
      all_goals first
        | exact rowP_set_ne hj (by decide) ((updE_ne (by decide)).trans (updE_ne (by decide))) rfl
        | skip
      refine rowP_set_at hiM ?_
      rcases j with _ | _ | _ | j
      · exact leC_int rfl
      · exact leC_int rfl
      · exact leC_os rfl rfl
      · omega
set_option maxHeartbeats 8000000 in
set_option maxRecDepth 20000 in
theorem st1_1 (L : List Sed) (now draw : Int) (hv : validL L = true) (s : SlI L now) (hi : s.i = 1) (hil : s.i < L.length) (K : Kt) :
    exec T (mkQ LMs) 1024 Try.f21.ntmps 0 (loopIn (dropC 4 (Try.f21.body.getD Code.ret))) (S1 L now draw s).fr (S1 L now draw s).H (S1 L now draw s).nx (seqK (fun fr H _ => Goes (S1 L now draw) (fun s => L.length - s.i) 0 (L.length - s.i) fr H) K) := by
  obtain ⟨i, M, hn, hi0, h1, h2⟩ := s
  dsimp only at hi hil
  subst hi
  have h8 := vl_len hv
  have hiM : 1 < M.length := by omega
  have hS : SdOk (M.getD 1 default) := by rw [h2 _ (Nat.le_refl _)]; exact (vl_mem hv _ (getD_in hil)).2
  have hk := hS.k
  have hh := hS.n
  have hmn := hS.mn
  have w3 : IntKind.i64.wrap ((1 : Int) + 1) = ((1 + 1 : Nat) : Int) := rfl
  unfold S1
  dsimp only
  repeat' (first | (apply And.intro <;> intro hc <;> (first | exact Bool.noConfusion hc | (exfalso; first | exact absurd rfl hc | omega) | (simp only [decide_eq_true_eq, decide_eq_false_iff_not, Bool.not_eq_true', Bool.not_eq_false', beq_iff_eq, beq_eq_false_iff_ne, bne_iff_ne, bne_eq_false_iff_eq, Bool.true_eq_false, Bool.false_eq_true, ne_eq, not_true_eq_false] at hc <;> first | exact absurd rfl hc | (exfalso; first | exact absurd rfl hc | omega) | skip) | skip)) | (refine And.intro (by first | exact trivial | decide | omega | (dsimp only; omega) | exact fun _ _ => rfl | exact ⟨by assumption, by first | exact trivial | decide | omega | (dsimp only; omega)⟩) ?_) | (apply And.intro) | (intro s hs; skip) | (refine Exists.intro _ (And.intro ⟨rfl, rfl, rfl⟩ ?_)))
  conv => whnf
  obtain ⟨W, eW⟩ : ∃ W, lastF now (M.getD 1 default).held (M.getD 1 default).mn = W := ⟨_, rfl⟩
  refine loop_intro (mono_of LMs_ok) (fun s : {p : Nat × Int // p.1 ≤ (M.getD 1 default).held.length ∧ lastF now ((M.getD 1 default).held.drop p.1) p.2 = W} => (⟨[(1, one (.int .i64 now)), (2, one (.int .u32 draw)), (9, one (.os 1 0 M.length)), (31, one (.int .i64 (L.length : Int))), (32, one (.int .i64 ((1 : Nat) : Int))), (10, one (.int .i64 ((1 : Nat) : Int))), (11, one (.int .i64 s.1.2)), (44, one (.os 3 0 (M.getD 1 default).held.length)), (45, one (.int .i64 ((M.getD 1 default).held.length : Int))), (46, one (.int .i64 (s.1.1 : Int)))], (1, some (entP 2 M.length M)) :: hepP 2 M, 10⟩ : Hd)) (fun s => (M.getD 1 default).held.length - s.1.1) (fun _ => rfl) ?_ ⟨(0, (M.getD 1 default).mn), Nat.zero_le _, eW⟩ [] ⟨rfl, ⟨leF_int rfl, leF_int rfl, leF_c (leC_os rfl rfl), leF_int rfl, leF_int rfl, leF_int rfl, leF_int rfl, leF_c (leC_os rfl rfl), leF_int rfl, leF_int rfl, trivial⟩, ⟨⟨rfl, leN_entP (by omega) (lt8 rfl rfl rfl rfl rfl rfl rfl rfl)⟩, ⟨rfl, leN_entN⟩, ⟨rfl, leN_entN⟩, ⟨rfl, leN_entN⟩, ⟨rfl, leN_entN⟩, ⟨rfl, leN_entN⟩, ⟨rfl, leN_entN⟩, ⟨rfl, leN_entN⟩, ⟨rfl, leN_entN⟩, trivial⟩⟩
  rintro ⟨⟨k, l⟩, hkl, hW⟩
  dsimp only at hkl hW ⊢
  by_cases hkn : k < (M.getD 1 default).held.length
  · have w4 : IntKind.i64.wrap ((k : Int) + 1) = ((k + 1 : Nat) : Int) := (IntWalk.i64_in _ (by omega)).trans (by omega)
    have hst : lastF now ((M.getD 1 default).held.drop (k + 1)) (if ((M.getD 1 default).held.getD k default).til ≤ now then ((M.getD 1 default).held.getD k default).num + 1 else l) = W := by rw [← hW, drop_at hkn]; rfl
    have hm := vh_mem hS.h _ (getD_in hkn)
    have w5 : IntKind.i64.wrap (((M.getD 1 default).held.getD k default).num + 1) = ((M.getD 1 default).held.getD k default).num + 1 := IntWalk.i64_in _ (by omega)
    have z0 : 0 + (k : Int).toNat = k := Nat.zero_add k
    repeat' (first | (simp only [z0, w4, w5]) | (apply And.intro <;> intro hc <;> (first | exact Bool.noConfusion hc | (exfalso; first | exact absurd rfl hc | omega) | (simp only [decide_eq_true_eq, decide_eq_false_iff_not, Bool.not_eq_true', Bool.not_eq_false', beq_iff_eq, beq_eq_false_iff_ne, bne_iff_ne, bne_eq_false_iff_eq, Bool.true_eq_false, Bool.false_eq_true, ne_eq, not_true_eq_false] at hc <;> first | exact absurd rfl hc | (exfalso; first | exact absurd rfl hc | omega) | skip) | skip)) | (refine And.intro (by first | exact trivial | decide | omega | (dsimp only; omega) | exact fun _ _ => rfl | exact ⟨by assumption, by first | exact trivial | decide | omega | (dsimp only; omega)⟩) ?_) | (apply And.intro) | (intro s hs; skip) | (refine Exists.intro _ (And.intro ⟨rfl, rfl, rfl⟩ ?_)))
    · rw [if_pos hc] at hst
      conv => whnf
      exact ⟨⟨(k + 1, _), hkn, hst⟩, [], by dsimp only; omega, rfl, ⟨leF_int rfl, leF_int rfl, leF_c (leC_os rfl rfl), leF_int rfl, leF_int rfl, leF_int rfl, leF_int w5, leF_c (leC_os rfl rfl), leF_int rfl, leF_int w4, trivial⟩, ⟨⟨rfl, leN_entP (by omega) (lt8 rfl rfl rfl rfl rfl rfl rfl rfl)⟩, ⟨rfl, leN_entN⟩, ⟨rfl, leN_entN⟩, ⟨rfl, leN_entN⟩, ⟨rfl, leN_entN⟩, ⟨rfl, leN_entN⟩, ⟨rfl, leN_entN⟩, ⟨rfl, leN_entN⟩, ⟨rfl, leN_entN⟩, trivial⟩⟩
    · rw [if_neg hc] at hst
      conv => whnf
      exact ⟨⟨(k + 1, l), hkn, hst⟩, [], by dsimp only; omega, rfl, ⟨leF_int rfl, leF_int rfl, leF_c (leC_os rfl rfl), leF_int rfl, leF_int rfl, leF_int rfl, leF_int rfl, leF_c (leC_os rfl rfl), leF_int rfl, leF_int w4, trivial⟩, ⟨⟨rfl, leN_entP (by omega) (lt8 rfl rfl rfl rfl rfl rfl rfl rfl)⟩, ⟨rfl, leN_entN⟩, ⟨rfl, leN_entN⟩, ⟨rfl, leN_entN⟩, ⟨rfl, leN_entN⟩, ⟨rfl, leN_entN⟩, ⟨rfl, leN_entN⟩, ⟨rfl, leN_entN⟩, ⟨rfl, leN_entN⟩, trivial⟩⟩
  · obtain rfl : l = W := by
      rw [List.drop_of_length_le (by omega)] at hW; exact hW
    clear hW
    repeat' (first | (apply And.intro <;> intro hc <;> (first | exact Bool.noConfusion hc | (exfalso; first | exact absurd rfl hc | omega) | (simp only [decide_eq_true_eq, decide_eq_false_iff_not, Bool.not_eq_true', Bool.not_eq_false', beq_iff_eq, beq_eq_false_iff_ne, bne_iff_ne, bne_eq_false_iff_eq, Bool.true_eq_false, Bool.false_eq_true, ne_eq, not_true_eq_false] at hc <;> first | exact absurd rfl hc | (exfalso; first | exact absurd rfl hc | omega) | skip) | skip)) | (refine And.intro (by first | exact trivial | decide | omega | (dsimp only; omega) | exact fun _ _ => rfl | exact ⟨by assumption, by first | exact trivial | decide | omega | (dsimp only; omega)⟩) ?_) | (apply And.intro) | (intro s hs; skip) | (refine Exists.intro _ (And.intro ⟨rfl, rfl, rfl⟩ ?_)))
    · exact rfl
    · conv => whnf
      have eM : M.set 1 (clsS now (M.getD 1 default)) = M := by
        unfold clsS; rw [eW, show raiseS (M.getD 1 default) l = M.getD 1 default from if_pos hc]; exact set_self hiM
      exact ⟨SlI.next ⟨1, M, hn, hi0, h1, h2⟩ hil M eM, [], by dsimp only [SlI.next]; omega, rfl, ⟨leF_int rfl, leF_int rfl, leF_c (leC_os rfl rfl), leF_int rfl, leF_int rfl, trivial⟩, ⟨⟨rfl, leN_entP (by omega) (lt8 rfl rfl rfl rfl rfl rfl rfl rfl)⟩, ⟨rfl, leN_entN⟩, ⟨rfl, leN_entN⟩, ⟨rfl, leN_entN⟩, ⟨rfl, leN_entN⟩, ⟨rfl, leN_entN⟩, ⟨rfl, leN_entN⟩, ⟨rfl, leN_entN⟩, ⟨rfl, leN_entN⟩, trivial⟩⟩
    · exact Nat.le_of_eq (Nat.zero_add _)
    · exact ⟨rfl, okD_sl _⟩
    · exact Eq.mpr (congrArg KpI (toN_row0 neH_rd _)) hk
    · conv => whnf
      have q : (M.getD 1 default).held.filter (wantB (some l)) = s := (hs.trans (congrArg (List.filter (wantB (some l))) (toN_row0 neH_rd _))).symm
      clear hs
      have eX : clsS now (M.getD 1 default) = ⟨(M.getD 1 default).id, l, s⟩ := by
        unfold clsS; rw [eW]; exact (if_neg hc).trans (by rw [q])
      refine ⟨SlI.next ⟨1, M, hn, hi0, h1, h2⟩ hil _ (congrArg (M.set 1) eX), [(3, some 5148)], by dsimp only [SlI.next]; omega, rfl, ⟨leF_int rfl, leF_int rfl, leF_c (leC_os rfl (List.length_set).symm), leF_int rfl, leF_int rfl, trivial⟩, ⟨⟨rfl, ⟨rfl, (List.length_set).symm, rfl, rfl, fun p hp j hj => ?_⟩⟩, ⟨rfl, leN_eqN (congrArg Sed.held (set_ne (by decide)).symm)⟩, ⟨rfl, leN_eqN (congrArg Sed.held (set_at (s := ⟨(M.getD 1 default).id, l, s⟩) hiM).symm)⟩, ⟨rfl, leN_eqN (congrArg Sed.held (set_ne (by decide)).symm)⟩, ⟨rfl, leN_eqN (congrArg Sed.held (set_ne (by decide)).symm)⟩, ⟨rfl, leN_eqN (congrArg Sed.held (set_ne (by decide)).symm)⟩, ⟨rfl, leN_eqN (congrArg Sed.held (set_ne (by decide)).symm)⟩, ⟨rfl, leN_eqN (congrArg Sed.held (set_ne (by decide)).symm)⟩, ⟨rfl, leN_eqN (congrArg Sed.held (set_ne (by decide)).symm)⟩, trivial⟩⟩
      have hp : p < M.length := hp
      have hj : j < 3 := hj
      rcases (show p = 0 ∨ p = 1 ∨ p = 2 ∨ p = 3 ∨ p = 4 ∨ p = 5 ∨ p = 6 ∨ p = 7 by omega) with rfl | rfl | rfl | rfl | rfl | rfl | rfl | rfl
      all_goals first
        | exact rowP_set_ne hj (by decide) ((updE_ne (by decide)).trans (updE_ne (by decide))) rfl
        | skip
      refine rowP_set_at hiM ?_
      rcases j with _ | _ | _ | j
      · exact leC_int rfl
      · exact leC_int rfl
      · exact leC_os rfl rfl
      · omega
set_option maxHeartbeats 8000000 in
set_option maxRecDepth 20000 in
theorem st1_2 (L : List Sed) (now draw : Int) (hv : validL L = true) (s : SlI L now) (hi : s.i = 2) (hil : s.i < L.length) (K : Kt) :
    exec T (mkQ LMs) 1024 Try.f21.ntmps 0 (loopIn (dropC 4 (Try.f21.body.getD Code.ret))) (S1 L now draw s).fr (S1 L now draw s).H (S1 L now draw s).nx (seqK (fun fr H _ => Goes (S1 L now draw) (fun s => L.length - s.i) 0 (L.length - s.i) fr H) K) := by
  obtain ⟨i, M, hn, hi0, h1, h2⟩ := s
  dsimp only at hi hil
  subst hi
  have h8 := vl_len hv
  have hiM : 2 < M.length := by omega
  have hS : SdOk (M.getD 2 default) := by rw [h2 _ (Nat.le_refl _)]; exact (vl_mem hv _ (getD_in hil)).2
  have hk := hS.k
  have hh := hS.n
  have hmn := hS.mn
  have w3 : IntKind.i64.wrap ((2 : Int) + 1) = ((2 + 1 : Nat) : Int) := rfl
  unfold S1
  dsimp only
  repeat' (first | (apply And.intro <;> intro hc <;> (first | exact Bool.noConfusion hc | (exfalso; first | exact absurd rfl hc | omega) | (simp only [decide_eq_true_eq, decide_eq_false_iff_not, Bool.not_eq_true', Bool.not_eq_false', beq_iff_eq, beq_eq_false_iff_ne, bne_iff_ne, bne_eq_false_iff_eq, Bool.true_eq_false, Bool.false_eq_true, ne_eq, not_true_eq_false] at hc <;> first | exact absurd rfl hc | (exfalso; first | exact absurd rfl hc | omega) | skip) | skip)) | (refine And.intro (by first | exact trivial | decide | omega | (dsimp only; omega) | exact fun _ _ => rfl | exact ⟨by assumption, by first | exact trivial | decide | omega | (dsimp only; omega)⟩) ?_) | (apply And.intro) | (intro s hs; skip) | (refine Exists.intro _ (And.intro ⟨rfl, rfl, rfl⟩ ?_)))
  conv => whnf
  obtain ⟨W, eW⟩ : ∃ W, lastF now (M.getD 2 default).held (M.getD 2 default).mn = W := ⟨_, rfl⟩
  refine loop_intro (mono_of LMs_ok) (fun s : {p : Nat × Int // p.1 ≤ (M.getD 2 default).held.length ∧ lastF now ((M.getD 2 default).held.drop p.1) p.2 = W} => (⟨[(1, one (.int .i64 now)), (2, one (.int .u32 draw)), (9, one (.os 1 0 M.length)), (31, one (.int .i64 (L.length : Int))), (32, one (.int .i64 ((2 : Nat) : Int))), (10, one (.int .i64 ((2 : Nat) : Int))), (11, one (.int .i64 s.1.2)), (44, one (.os 4 0 (M.getD 2 default).held.length)), (45, one (.int .i64 ((M.getD 2 default).held.length : Int))), (46, one (.int .i64 (s.1.1 : Int)))], (1, some (entP 2 M.length M)) :: hepP 2 M, 10⟩ : Hd)) (fun s => (M.getD 2 default).held.length - s.1.1) (fun _ => rfl) ?_ ⟨(0, (M.getD 2 default).mn), Nat.zero_le _, eW⟩ [] ⟨rfl, ⟨leF_int rfl, leF_int rfl, leF_c (leC_os rfl rfl), leF_int rfl, leF_int rfl, leF_int rfl, leF_int rfl, leF_c (leC_os rfl rfl), leF_int rfl, leF_int rfl, trivial⟩, ⟨⟨rfl, leN_entP (by omega) (lt8 rfl rfl rfl rfl rfl rfl rfl rfl)⟩, ⟨rfl, leN_entN⟩, ⟨rfl, leN_entN⟩, ⟨rfl, leN_entN⟩, ⟨rfl, leN_entN⟩, ⟨rfl, leN_entN⟩, ⟨rfl, leN_entN⟩, ⟨rfl, leN_entN⟩, ⟨rfl, leN_entN⟩, trivial⟩⟩
  rintro ⟨⟨k, l⟩, hkl, hW⟩
  dsimp only at hkl hW ⊢
  by_cases hkn : k < (M.getD 2 default).held.length
  · have w4 : IntKind.i64.wrap ((k : Int) + 1) = ((k + 1 : Nat) : Int) := (IntWalk.i64_in _ (by omega)).trans (by omega)
    have hst : lastF now ((M.getD 2 default).held.drop (k + 1)) (if ((M.getD 2 default).held.getD k default).til ≤ now then ((M.getD 2 default).held.getD k default).num + 1 else l) = W := by rw [← hW, drop_at hkn]; rfl
    have hm := vh_mem hS.h _ (getD_in hkn)
    have w5 : IntKind.i64.wrap (((M.getD 2 default).held.getD k default).num + 1) = ((M.getD 2 default).held.getD k default).num + 1 := IntWalk.i64_in _ (by omega)
    have z0 : 0 + (k : Int).toNat = k := Nat.zero_add k
    repeat' (first | (simp only [z0, w4, w5]) | (apply And.intro <;> intro hc <;> (first | exact Bool.noConfusion hc | (exfalso; first | exact absurd rfl hc | omega) | (simp only [decide_eq_true_eq, decide_eq_false_iff_not, Bool.not_eq_true', Bool.not_eq_false', beq_iff_eq, beq_eq_false_iff_ne, bne_iff_ne, bne_eq_false_iff_eq, Bool.true_eq_false, Bool.false_eq_true, ne_eq, not_true_eq_false] at hc <;> first | exact absurd rfl hc | (exfalso; first | exact absurd rfl hc | omega) | skip) | skip)) | (refine And.intro (by first | exact trivial | decide | omega | (dsimp only; omega) | exact fun _ _ => rfl | exact ⟨by assumption, by first | exact trivial | decide | omega | (dsimp only; omega)⟩) ?_) | (apply And.intro) | (intro s hs; skip) | (refine Exists.intro _ (And.intro ⟨rfl, rfl, rfl⟩ ?_)))
    · rw [if_pos hc] at hst
      conv => whnf
      exact ⟨⟨(k + 1, _), hkn, hst⟩, [], by dsimp only; omega, rfl, ⟨leF_int rfl, leF_int rfl, leF_c (leC_os rfl rfl), leF_int rfl, leF_int rfl, leF_int rfl, leF_int w5, leF_c (leC_os rfl rfl), leF_int rfl, leF_int w4, trivial⟩, ⟨⟨rfl, leN_entP (by omega) (lt8 rfl rfl rfl rfl rfl rfl rfl rfl)⟩, ⟨rfl, leN_entN⟩, ⟨rfl, leN_entN⟩, ⟨rfl, leN_entN⟩, ⟨rfl, leN_entN⟩, ⟨rfl, leN_entN⟩, ⟨rfl, leN_entN⟩, ⟨rfl, leN_entN⟩, ⟨rfl, leN_entN⟩, trivial⟩⟩
    · rw [if_neg hc] at hst
      conv => whnf
      exact ⟨⟨(k + 1, l), hkn, hst⟩, [], by dsimp only; omega, rfl, ⟨leF_int rfl, leF_int rfl, leF_c (leC_os rfl rfl), leF_int rfl, leF_int rfl, leF_int rfl, leF_int rfl, leF_c (leC_os rfl rfl), leF_int rfl, leF_int w4, trivial⟩, ⟨⟨rfl, leN_entP (by omega) (lt8 rfl rfl rfl rfl rfl rfl rfl rfl)⟩, ⟨rfl, leN_entN⟩, ⟨rfl, leN_entN⟩, ⟨rfl, leN_entN⟩, ⟨rfl, leN_entN⟩, ⟨rfl, leN_entN⟩, ⟨rfl, leN_entN⟩, ⟨rfl, leN_entN⟩, ⟨rfl, leN_entN⟩, trivial⟩⟩
  · obtain rfl : l = W := by
      rw [List.drop_of_length_le (by omega)] at hW; exact hW
    clear hW
    repeat' (first | (apply And.intro <;> intro hc <;> (first | exact Bool.noConfusion hc | (exfalso; first | exact absurd rfl hc | omega) | (simp only [decide_eq_true_eq, decide_eq_false_iff_not, Bool.not_eq_true', Bool.not_eq_false', beq_iff_eq, beq_eq_false_iff_ne, bne_iff_ne, bne_eq_false_iff_eq, Bool.true_eq_false, Bool.false_eq_true, ne_eq, not_true_eq_false] at hc <;> first | exact absurd rfl hc | (exfalso; first | exact absurd rfl hc | omega) | skip) | skip)) | (refine And.intro (by first | exact trivial | decide | omega | (dsimp only; omega) | exact fun _ _ => rfl | exact ⟨by assumption, by first | exact trivial | decide | omega | (dsimp only; omega)⟩) ?_) | (apply And.intro) | (intro s hs; skip) | (refine Exists.intro _ (And.intro ⟨rfl, rfl, rfl⟩ ?_)))
    · exact rfl
    · conv => whnf
      have eM : M.set 2 (clsS now (M.getD 2 default)) = M := by
        unfold clsS; rw [eW, show raiseS (M.getD 2 default) l = M.getD 2 default from if_pos hc]; exact set_self hiM
      exact ⟨SlI.next ⟨2, M, hn, hi0, h1, h2⟩ hil M eM, [], by dsimp only [SlI.next]; omega, rfl, ⟨leF_int rfl, leF_int rfl, leF_c (leC_os rfl rfl), leF_int rfl, leF_int rfl, trivial⟩, ⟨⟨rfl, leN_entP (by omega) (lt8 rfl rfl rfl rfl rfl rfl rfl rfl)⟩, ⟨rfl, leN_entN⟩, ⟨rfl, leN_entN⟩, ⟨rfl, leN_entN⟩, ⟨rfl, leN_entN⟩, ⟨rfl, leN_entN⟩, ⟨rfl, leN_entN⟩, ⟨rfl, leN_entN⟩, ⟨rfl, leN_entN⟩, trivial⟩⟩
    · exact Nat.le_of_eq (Nat.zero_add _)
    · exact ⟨rfl, okD_sl _⟩
    · exact Eq.mpr (congrArg KpI (toN_row0 neH_rd _)) hk
    · conv => whnf
      have q : (M.getD 2 default).held.filter (wantB (some l)) = s := (hs.trans (congrArg (List.filter (wantB (some l))) (toN_row0 neH_rd _))).symm
      clear hs
      have eX : clsS now (M.getD 2 default) = ⟨(M.getD 2 default).id, l, s⟩ := by
        unfold clsS; rw [eW]; exact (if_neg hc).trans (by rw [q])
      refine ⟨SlI.next ⟨2, M, hn, hi0, h1, h2⟩ hil _ (congrArg (M.set 2) eX), [(4, some 5148)], by dsimp only [SlI.next]; omega, rfl, ⟨leF_int rfl, leF_int rfl, leF_c (leC_os rfl (List.length_set).symm), leF_int rfl, leF_int rfl, trivial⟩, ⟨⟨rfl, ⟨rfl, (List.length_set).symm, rfl, rfl, fun p hp j hj => ?_⟩⟩, ⟨rfl, leN_eqN (congrArg Sed.held (set_ne (by decide)).symm)⟩, ⟨rfl, leN_eqN (congrArg Sed.held (set_ne (by decide)).symm)⟩, ⟨rfl, leN_eqN (congrArg Sed.held (set_at (s := ⟨(M.getD 2 default).id, l, s⟩) hiM).symm)⟩, ⟨rfl, leN_eqN (congrArg Sed.held (set_ne (by decide)).symm)⟩, ⟨rfl, leN_eqN (congrArg Sed.held (set_ne (by decide)).symm)⟩, ⟨rfl, leN_eqN (congrArg Sed.held (set_ne (by decide)).symm)⟩, ⟨rfl, leN_eqN (congrArg Sed.held (set_ne (by decide)).symm)⟩, ⟨rfl, leN_eqN (congrArg Sed.held (set_ne (by decide)).symm)⟩, trivial⟩⟩
      have hp : p < M.length := hp
      have hj : j < 3 := hj
      rcases (show p = 0 ∨ p = 1 ∨ p = 2 ∨ p = 3 ∨ p = 4 ∨ p = 5 ∨ p = 6 ∨ p = 7 by omega) with rfl | rfl | rfl | rfl | rfl | rfl | rfl | rfl
      all_goals first
        | exact rowP_set_ne hj (by decide) ((updE_ne (by decide)).trans (updE_ne (by decide))) rfl
        | skip
      refine rowP_set_at hiM ?_
      rcases j with _ | _ | _ | j
      · exact leC_int rfl
      · exact leC_int rfl
      · exact leC_os rfl rfl
      · omega
set_option maxHeartbeats 8000000 in
set_option maxRecDepth 20000 in
theorem st1_3 (L : List Sed) (now draw : Int) (hv : validL L = true) (s : SlI L now) (hi : s.i = 3) (hil : s.i < L.length) (K : Kt) :
    exec T (mkQ LMs) 1024 Try.f21.ntmps 0 (loopIn (dropC 4 (Try.f21.body.getD Code.ret))) (S1 L now draw s).fr (S1 L now draw s).H (S1 L now draw s).nx (seqK (fun fr H _ => Goes (S1 L now draw) (fun s => L.length - s.i) 0 (L.length - s.i) fr H) K) := by
  obtain ⟨i, M, hn, hi0, h1, h2⟩ := s
  dsimp only at hi hil
  subst hi
  have h8 := vl_len hv
  have hiM : 3 < M.length := by omega
  have hS : SdOk (M.getD 3 default) := by rw [h2 _ (Nat.le_refl _)]; exact (vl_mem hv _ (getD_in hil)).2
  have hk := hS.k
  have hh := hS.n
  have hmn := hS.mn
  have w3 : IntKind.i64.wrap ((3 : Int) + 1) = ((3 + 1 : Nat) : Int) := rfl
  unfold S1
  dsimp only
  repeat' (first | (apply And.intro <;> intro hc <;> (first | exact Bool.noConfusion hc | (exfalso; first | exact absurd rfl hc | omega) | (simp only [decide_eq_true_eq, decide_eq_false_iff_not, Bool.not_eq_true', Bool.not_eq_false', beq_iff_eq, beq_eq_false_iff_ne, bne_iff_ne, bne_eq_false_iff_eq, Bool.true_eq_false, Bool.false_eq_true, ne_eq, not_true_eq_false] at hc <;> first | exact absurd rfl hc | (exfalso; first | exact absurd rfl hc | omega) | skip) | skip)) | (refine And.intro (by first | exact trivial | decide | omega | (dsimp only; omega) | exact fun _ _ => rfl | exact ⟨by assumption, by first | exact trivial | decide | omega | (dsimp only; omega)⟩) ?_) | (apply And.intro) | (intro s hs; skip) | (refine Exists.intro _ (And.intro ⟨rfl, rfl, rfl⟩ ?_)))
  conv => whnf
  obtain ⟨W, eW⟩ : ∃ W, lastF now (M.getD 3 default).held (M.getD 3 default).mn = W := ⟨_, rfl⟩
  refine loop_intro (mono_of LMs_ok) (fun s : {p : Nat × Int // p.1 ≤ (M.getD 3 default).held.length ∧ lastF now ((M.getD 3 default).held.drop p.1) p.2 = W} => (⟨[(1, one (.int .i64 now)), (2, one (.int .u32 draw)), (9, one (.os 1 0 M.length)), (31, one (.int .i64 (L.length : Int))), (32, one (.int .i64 ((3 : Nat) : Int))), (10, one (.int .i64 ((3 : Nat) : Int))), (11, one (.int .i64 s.1.2)), (44, one (.os 5 0 (M.getD 3 default).held.length)), (45, one (.int .i64 ((M.getD 3 default).held.length : Int))), (46, one (.int .i64 (s.1.1 : Int)))], (1, some (entP 2 M.length M)) :: hepP 2 M, 10⟩ : Hd)) (fun s => (M.getD 3 default).held.length - s.1.1) (fun _ => rfl) ?_ ⟨(0, (M.getD 3 default).mn), Nat.zero_le _, eW⟩ [] ⟨rfl, ⟨leF_int rfl, leF_int rfl, leF_c (leC_os rfl rfl), leF_int rfl, leF_int rfl, leF_int rfl, leF_int rfl, leF_c (leC_os rfl rfl), leF_int rfl, leF_int rfl, trivial⟩, ⟨⟨rfl, leN_entP (by omega) (lt8 rfl rfl rfl rfl rfl rfl rfl rfl)⟩, ⟨rfl, leN_entN⟩, ⟨rfl, leN_entN⟩, ⟨rfl, leN_entN⟩, ⟨rfl, leN_entN⟩, ⟨rfl, leN_entN⟩, ⟨rfl, leN_entN⟩, ⟨rfl, leN_entN⟩, ⟨rfl, leN_entN⟩, trivial⟩⟩
  rintro ⟨⟨k, l⟩, hkl, hW⟩
  dsimp only at hkl hW ⊢
  by_cases hkn : k < (M.getD 3 default).held.length
  · have w4 : IntKind.i64.wrap ((k : Int) + 1) = ((k + 1 : Nat) : Int) := (IntWalk.i64_in _ (by omega)).trans (by omega)
    have hst : lastF now ((M.getD 3 default).held.drop (k + 1)) (if ((M.getD 3 default).held.getD k default).til ≤ now then ((M.getD 3 default).held.getD k default).num + 1 else l) = W := by rw [← hW, drop_at hkn]; rfl
    have hm := vh_mem hS.h _ (getD_in hkn)
    have w5 : IntKind.i64.wrap (((M.getD 3 default).held.getD k default).num + 1) = ((M.getD 3 default).held.getD k default).num + 1 := IntWalk.i64_in _ (by omega)
    have z0 : 0 + (k : Int).toNat = k := Nat.zero_add k
    repeat' (first | (simp only [z0, w4, w5]) | (apply And.intro <;> intro hc <;> (first | exact Bool.noConfusion hc | (exfalso; first | exact absurd rfl hc | omega) | (simp only [decide_eq_true_eq, decide_eq_false_iff_not, Bool.not_eq_true', Bool.not_eq_false', beq_iff_eq, beq_eq_false_iff_ne, bne_iff_ne, bne_eq_false_iff_eq, Bool.true_eq_false, Bool.false_eq_true, ne_eq, not_true_eq_false] at hc <;> first | exact absurd rfl hc | (exfalso; first | exact absurd rfl hc | omega) | skip) | skip)) | (refine And.intro (by first | exact trivial | decide | omega | (dsimp only; omega) | exact fun _ _ => rfl | exact ⟨by assumption, by first | exact trivial | decide | omega | (dsimp only; omega)⟩) ?_) | (apply And.intro) | (intro s hs; skip) | (refine Exists.intro _ (And.intro ⟨rfl, rfl, rfl⟩ ?_)))
    · rw [if_pos hc] at hst
      conv => whnf
      exact ⟨⟨(k + 1, _), hkn, hst⟩, [], by dsimp only; omega, rfl, ⟨leF_int rfl, leF_int rfl, leF_c (leC_os rfl rfl), leF_int rfl, leF_int rfl, leF_int rfl, leF_int w5, leF_c (leC_os rfl rfl), leF_int rfl, leF_int w4, trivial⟩, ⟨⟨rfl, leN_entP (by omega) (lt8 rfl rfl rfl rfl rfl rfl rfl rfl)⟩, ⟨rfl, leN_entN⟩, ⟨rfl, leN_entN⟩, ⟨rfl, leN_entN⟩, ⟨rfl, leN_entN⟩, ⟨rfl, leN_entN⟩, ⟨rfl, leN_entN⟩, ⟨rfl, leN_entN⟩, ⟨rfl, leN_entN⟩, trivial⟩⟩
    · rw [if_neg hc] at hst
      conv => whnf
      exact ⟨⟨(k + 1, l), hkn, hst⟩, [], by dsimp only; omega, rfl, ⟨leF_int rfl, leF_int rfl, leF_c (leC_os rfl rfl), leF_int rfl, leF_int rfl, leF_int rfl, leF_int rfl, leF_c (leC_os rfl rfl), leF_int rfl, leF_int w4, trivial⟩, ⟨⟨rfl, leN_entP (by omega) (lt8 rfl rfl rfl rfl rfl rfl rfl rfl)⟩, ⟨rfl, leN_entN⟩, ⟨rfl, leN_entN⟩, ⟨rfl, leN_entN⟩, ⟨rfl, leN_entN⟩, ⟨rfl, leN_entN⟩, ⟨rfl, leN_entN⟩, ⟨rfl, leN_entN⟩, ⟨rfl, leN_entN⟩, trivial⟩⟩
  · obtain rfl : l = W := by
      rw [List.drop_of_length_le (by omega)] at hW; exact hW
    clear hW
    repeat' (first | (apply And.intro <;> intro hc <;> (first | exact Bool.noConfusion hc | (exfalso; first | exact absurd rfl hc | omega) | (simp only [decide_eq_true_eq, decide_eq_false_iff_not, Bool.not_eq_true', Bool.not_eq_false', beq_iff_eq, beq_eq_false_iff_ne, bne_iff_ne, bne_eq_false_iff_eq, Bool.true_eq_false, Bool.false_eq_true, ne_eq, not_true_eq_false] at hc <;> first | exact absurd rfl hc | (exfalso; first | exact absurd rfl hc | omega) | skip) | skip)) | (refine And.intro (by first | exact trivial | decide | omega | (dsimp only; omega) | exact fun _ _ => rfl | exact ⟨by assumption, by first | exact trivial | decide | omega | (dsimp only; omega)⟩) ?_) | (apply And.intro) | (intro s hs; skip) | (refine Exists.intro _ (And.intro ⟨rfl, rfl, rfl⟩ ?_)))
    · exact rfl
    · conv => whnf
      have eM : M.set 3 (clsS now (M.getD 3 default)) = M := by
        unfold clsS; rw [eW, show raiseS (M.getD 3 default) l = M.getD 3 default from if_pos hc]; exact set_self hiM
      exact ⟨SlI.next ⟨3, M, hn, hi0, h1, h2⟩ hil M eM, [], by dsimp only [SlI.next]; omega, rfl, ⟨leF_int rfl, leF_int rfl, leF_c (leC_os rfl rfl), leF_int rfl, leF_int rfl, trivial⟩, ⟨⟨rfl, leN_entP (by omega) (lt8 rfl rfl rfl rfl rfl rfl rfl rfl)⟩, ⟨rfl, leN_entN⟩, ⟨rfl, leN_entN⟩, ⟨rfl, leN_entN⟩, ⟨rfl, leN_entN⟩, ⟨rfl, leN_entN⟩, ⟨rfl, leN_entN⟩, ⟨rfl, leN_entN⟩, ⟨rfl, leN_entN⟩, trivial⟩⟩
    · exact Nat.le_of_eq (Nat.zero_add _)
    · exact ⟨rfl, okD_sl _⟩
    · exact Eq.mpr (congrArg KpI (toN_row0 neH_rd _)) hk
    · conv => whnf
      have q : (M.getD 3 default).held.filter (wantB (some l)) = s := (hs.trans (congrArg (List.filter (wantB (some l))) (toN_row0 neH_rd _))).symm
      clear hs
      have eX : clsS now (M.getD 3 default) = ⟨(M.getD 3 default).id, l, s⟩ := by
        unfold clsS; rw [eW]; exact (if_neg hc).trans (by rw [q])
      refine ⟨SlI.next ⟨3, M, hn, hi0, h1, h2⟩ hil _ (congrArg (M.set 3) eX), [(5, some 5148)], by dsimp only [SlI.next]; omega, rfl, ⟨leF_int rfl, leF_int rfl, leF_c (leC_os rfl (List.length_set).symm), leF_int rfl, leF_int rfl, trivial⟩, ⟨⟨rfl, ⟨rfl, (List.length_set).symm, rfl, rfl, fun p hp j hj => ?_⟩⟩, ⟨rfl, leN_eqN (congrArg Sed.held (set_ne (by decide)).symm)⟩, ⟨rfl, leN_eqN (congrArg Sed.held (set_ne (by decide)).symm)⟩, ⟨rfl, leN_eqN (congrArg Sed.held (set_ne (by decide)).symm)⟩, ⟨rfl, leN_eqN (congrArg Sed.held (set_at (s := ⟨(M.getD 3 default).id, l, s⟩) hiM).symm)⟩, ⟨rfl, leN_eqN (congrArg Sed.held (set_ne (by decide)).symm)⟩, ⟨rfl, leN_eqN (congrArg Sed.held (set_ne (by decide)).symm)⟩, ⟨rfl, leN_eqN (congrArg Sed.held (set_ne (by decide)).symm)⟩, ⟨rfl, leN_eqN (congrArg Sed.held (set_ne (by decide)).symm)⟩, trivial⟩⟩
      have hp : p < M.length := hp
      have hj : j < 3 := hj
      rcases (show p = 0 ∨ p = 1 ∨ p = 2 ∨ p = 3 ∨ p = 4 ∨ p = 5 ∨ p = 6 ∨ p = 7 by omega) with rfl | rfl | rfl | rfl | rfl | rfl | rfl | rfl
      all_goals first
        | exact rowP_set_ne hj (by decide) ((updE_ne (by decide)).trans (updE_ne (by decide))) rfl
        | skip
      refine rowP_set_at hiM ?_
      rcases j with _ | _ | _ | j
      · exact leC_int rfl
      · exact leC_int rfl
      · exact leC_os rfl rfl
      · omega
set_option maxHeartbeats 8000000 in
set_option maxRecDepth 20000 in
theorem st1_4 (L : List Sed) (now draw : Int) (hv : validL L = true) (s : SlI L now) (hi : s.i = 4) (hil : s.i < L.length) (K : Kt) :
    exec T (mkQ LMs) 1024 Try.f21.ntmps 0 (loopIn (dropC 4 (Try.f21.body.getD Code.ret))) (S1 L now draw s).fr (S1 L now draw s).H (S1 L now draw s).nx (seqK (fun fr H _ => Goes (S1 L now draw) (fun s => L.length - s.i) 0 (L.length - s.i) fr H) K) := by
  obtain ⟨i, M, hn, hi0, h1, h2⟩ := s
  dsimp only at hi hil
  subst hi
  have h8 := vl_len hv
  have hiM : 4 < M.length := by omega
  have hS : SdOk (M.getD 4 default) := by rw [h2 _ (Nat.le_refl _)]; exact (vl_mem hv _ (getD_in hil)).2
  have hk := hS.k
  have hh := hS.n
  have hmn := hS.mn
  have w3 : IntKind.i64.wrap ((4 : Int) + 1) = ((4 + 1 : Nat) : Int) := rfl
  unfold S1
  dsimp only
  repeat' (first | (apply And.intro <;> intro hc <;> (first | exact Bool.noConfusion hc | (exfalso; first | exact absurd rfl hc | omega) | (simp only [decide_eq_true_eq, decide_eq_false_iff_not, Bool.not_eq_true', Bool.not_eq_false', beq_iff_eq, beq_eq_false_iff_ne, bne_iff_ne, bne_eq_false_iff_eq, Bool.true_eq_false, Bool.false_eq_true, ne_eq, not_true_eq_false] at hc <;> first | exact absurd rfl hc | (exfalso; first | exact absurd rfl hc | omega) | skip) | skip)) | (refine And.intro (by first | exact trivial | decide | omega | (dsimp only; omega) | exact fun _ _ => rfl | exact ⟨by assumption, by first | exact trivial | decide | omega | (dsimp only; omega)⟩) ?_) | (apply And.intro) | (intro s hs; skip) | (refine Exists.intro _ (And.intro ⟨rfl, rfl, rfl⟩ ?_)))
  conv => whnf
  obtain ⟨W, eW⟩ : ∃ W, lastF now (M.getD 4 default).held (M.getD 4 default).mn = W := ⟨_, rfl⟩
  refine loop_intro (mono_of LMs_ok) (fun s : {p : Nat × Int // p.1 ≤ (M.getD 4 default).held.length ∧ lastF now ((M.getD 4 default).held.drop p.1) p.2 = W} => (⟨[(1, one (.int .i64 now)), (2, one (.int .u32 draw)), (9, one (.os 1 0 M.length)), (31, one (.int .i64 (L.length : Int))), (32, one (.int .i64 ((4 : Nat) : Int))), (10, one (.int .i64 ((4 : Nat) : Int))), (11, one (.int .i64 s.1.2)), (44, one (.os 6 0 (M.getD 4 default).held.length)), (45, one (.int .i64 ((M.getD 4 default).held.length : Int))), (46, one (.int .i64 (s.1.1 : Int)))], (1, some (entP 2 M.length M)) :: hepP 2 M, 10⟩ : Hd)) (fun s => (M.getD 4 default).held.length - s.1.1) (fun _ => rfl) ?_ ⟨(0, (M.getD 4 default).mn), Nat.zero_le _, eW⟩ [] ⟨rfl, ⟨leF_int rfl, leF_int rfl, leF_c (leC_os rfl rfl), leF_int rfl, leF_int rfl, leF_int rfl, leF_int rfl, leF_c (leC_os rfl rfl), leF_int rfl, leF_int rfl, trivial⟩, ⟨⟨rfl, leN_entP (by omega) (lt8 rfl rfl rfl rfl rfl rfl rfl rfl)⟩, ⟨rfl, leN_entN⟩, ⟨rfl, leN_entN⟩, ⟨rfl, leN_entN⟩, ⟨rfl, leN_entN⟩, ⟨rfl, leN_entN⟩, ⟨rfl, leN_entN⟩, ⟨rfl, leN_entN⟩, ⟨rfl, leN_entN⟩, trivial⟩⟩
  rintro ⟨⟨k, l⟩, hkl, hW⟩
  dsimp only at hkl hW ⊢
  by_cases hkn : k < (M.getD 4 default).held.length
  · have w4 : IntKind.i64.wrap ((k : Int) + 1) = ((k + 1 : Nat) : Int) := (IntWalk.i64_in _ (by omega)).trans (by omega)
    have hst : lastF now ((M.getD 4 default).held.drop (k + 1)) (if ((M.getD 4 default).held.getD k default).til ≤ now then ((M.getD 4 default).held.getD k default).num + 1 else l) = W := by rw [← hW, drop_at hkn]; rfl
    have hm := vh_mem hS.h _ (getD_in hkn)
    have w5 : IntKind.i64.wrap (((M.getD 4 default).held.getD k default).num + 1) = ((M.getD 4 default).held.getD k default).num + 1 := IntWalk.i64_in _ (by omega)
    have z0 : 0 + (k : Int).toNat = k := Nat.zero_add k
    repeat' (first | (simp only [z0, w4, w5]) | (apply And.intro <;> intro hc <;> (first | exact Bool.noConfusion hc | (exfalso; first | exact absurd rfl hc | omega) | (simp only [decide_eq_true_eq, decide_eq_false_iff_not, Bool.not_eq_true', Bool.not_eq_false', beq_iff_eq, beq_eq_false_iff_ne, bne_iff_ne, bne_eq_false_iff_eq, Bool.true_eq_false, Bool.false_eq_true, ne_eq, not_true_eq_false] at hc <;> first | exact absurd rfl hc | (exfalso; first | exact absurd rfl hc | omega) | skip) | skip)) | (refine And.intro (by first | exact trivial | decide | omega | (dsimp only; omega) | exact fun _ _ => rfl | exact ⟨by assumption, by first | exact trivial | decide | omega | (dsimp only; omega)⟩) ?_) | (apply And.intro) | (intro s hs; skip) | (refine Exists.intro _ (And.intro ⟨rfl, rfl, rfl⟩ ?_)))
    · rw [if_pos hc] at hst
      conv => whnf
      exact ⟨⟨(k + 1, _), hkn, hst⟩, [], by dsimp only; omega, rfl, ⟨leF_int rfl, leF_int rfl, leF_c (leC_os rfl rfl), leF_int rfl, leF_int rfl, leF_int rfl, leF_int w5, leF_c (leC_os rfl rfl), leF_int rfl, leF_int w4, trivial⟩, ⟨⟨rfl, leN_entP (by omega) (lt8 rfl rfl rfl rfl rfl rfl rfl rfl)⟩, ⟨rfl, leN_entN⟩, ⟨rfl, leN_entN⟩, ⟨rfl, leN_entN⟩, ⟨rfl, leN_entN⟩, ⟨rfl, leN_entN⟩, ⟨rfl, leN_entN⟩, ⟨rfl, leN_entN⟩, ⟨rfl, leN_entN⟩, trivial⟩⟩
    · rw [if_neg hc] at hst
      conv => whnf
      exact ⟨⟨(k + 1, l), hkn, hst⟩, [], by dsimp only; omega, rfl, ⟨leF_int rfl, leF_int rfl, leF_c (leC_os rfl rfl), leF_int rfl, leF_int rfl, leF_int rfl, leF_int rfl, leF_c (leC_os rfl rfl), leF_int rfl, leF_int w4, trivial⟩, ⟨⟨rfl, leN_entP (by omega) (lt8 rfl rfl rfl rfl rfl rfl rfl rfl)⟩, ⟨rfl, leN_entN⟩, ⟨rfl, leN_entN⟩, ⟨rfl, leN_entN⟩, ⟨rfl, leN_entN⟩, ⟨rfl, leN_entN⟩, ⟨rfl, leN_entN⟩, ⟨rfl, leN_entN⟩, ⟨rfl, leN_entN⟩, trivial⟩⟩
  · obtain rfl : l = W := by
      rw [List.drop_of_length_le (by omega)] at hW; exact hW
    clear hW
    repeat' (first | (apply And.intro <;> intro hc <;> (first | exact Bool.noConfusion hc | (exfalso; first | exact absurd rfl hc | omega) | (simp only [decide_eq_true_eq, decide_eq_false_iff_not, Bool.not_eq_true', Bool.not_eq_false', beq_iff_eq, beq_eq_false_iff_ne, bne_iff_ne, bne_eq_false_iff_eq, Bool.true_eq_false, Bool.false_eq_true, ne_eq, not_true_eq_false] at hc <;> first | exact absurd rfl hc | (exfalso; first | exact absurd rfl hc | omega) | skip) | skip)) | (refine And.intro (by first | exact trivial | decide | omega | (dsimp only; omega) | exact fun _ _ => rfl | exact ⟨by assumption, by first | exact trivial | decide | omega | (dsimp only; omega)⟩) ?_) | (apply And.intro) | (intro s hs; skip) | (refine Exists.intro _ (And.intro ⟨rfl, rfl, rfl⟩ ?_)))
    · exact rfl
    · conv => whnf
      have eM : M.set 4 (clsS now (M.getD 4 default)) = M := by
        unfold clsS; rw [eW, show raiseS (M.getD 4 default) l = M.getD 4 default from if_pos hc]; exact set_self hiM
      exact ⟨SlI.next ⟨4, M, hn, hi0, h1, h2⟩ hil M eM, [], by dsimp only [SlI.next]; omega, rfl, ⟨leF_int rfl, leF_int rfl, leF_c (leC_os rfl rfl), leF_int rfl, leF_int rfl, trivial⟩, ⟨⟨rfl, leN_entP (by omega) (lt8 rfl rfl rfl rfl rfl rfl rfl rfl)⟩, ⟨rfl, leN_entN⟩, ⟨rfl, leN_entN⟩, ⟨rfl, leN_entN⟩, ⟨rfl, leN_entN⟩, ⟨rfl, leN_entN⟩, ⟨rfl, leN_entN⟩, ⟨rfl, leN_entN⟩, ⟨rfl, leN_entN⟩, trivial⟩⟩
    · exact Nat.le_of_eq (Nat.zero_add _)
    · exact ⟨rfl, okD_sl _⟩
    · exact Eq.mpr (congrArg KpI (toN_row0 neH_rd _)) hk
    · conv => whnf
      have q : (M.getD 4 default).held.filter (wantB (some l)) = s := (hs.trans (congrArg (List.filter (wantB (some l))) (toN_row0 neH_rd _))).symm
      clear hs
      have eX : clsS now (M.getD 4 default) = ⟨(M.getD 4 default).id, l, s⟩ := by
        unfold clsS; rw [eW]; exact (if_neg hc).trans (by rw [q])
      refine ⟨SlI.next ⟨4, M, hn, hi0, h1, h2⟩ hil _ (congrArg (M.set 4) eX), [(6, some 5148)], by dsimp only [SlI.next]; omega, rfl, ⟨leF_int rfl, leF_int rfl, leF_c (leC_os rfl (List.length_set).symm), leF_int rfl, leF_int rfl, trivial⟩, ⟨⟨rfl, ⟨rfl, (List.length_set).symm, rfl, rfl, fun p hp j hj => ?_⟩⟩, ⟨rfl, leN_eqN (congrArg Sed.held (set_ne (by decide)).symm)⟩, ⟨rfl, leN_eqN (congrArg Sed.held (set_ne (by decide)).symm)⟩, ⟨rfl, leN_eqN (congrArg Sed.held (set_ne (by decide)).symm)⟩, ⟨rfl, leN_eqN (congrArg Sed.held (set_ne (by decide)).symm)⟩, ⟨rfl, leN_eqN (congrArg Sed.held (set_at (s := ⟨(M.getD 4 default).id, l, s⟩) hiM).symm)⟩, ⟨rfl, leN_eqN (congrArg Sed.held (set_ne (by decide)).symm)⟩, ⟨rfl, leN_eqN (congrArg Sed.held (set_ne (by decide)).symm)⟩, ⟨rfl, leN_eqN (congrArg Sed.held (set_ne (by decide)).symm)⟩, trivial⟩⟩
      have hp : p < M.length := hp
      have hj : j < 3 := hj
      rcases (show p = 0 ∨ p = 1 ∨ p = 2 ∨ p = 3 ∨ p = 4 ∨ p = 5 ∨ p = 6 ∨ p = 7 by omega) with rfl | rfl | rfl | rfl | rfl | rfl | rfl | rfl
      all_goals first
        | exact rowP_set_ne hj (by decide) ((updE_ne (by decide)).trans (updE_ne (by decide))) rfl
        | skip
      refine rowP_set_at hiM ?_
      rcases j with _ | _ | _ | j
      · exact leC_int rfl
      · exact leC_int rfl
      · exact leC_os rfl rfl
      · omega
set_option maxHeartbeats 8000000 in
set_option maxRecDepth 20000 in
theorem st1_5 (L : List Sed) (now draw : Int) (hv : validL L = true) (s : SlI L now) (hi : s.i = 5) (hil : s.i < L.length) (K : Kt) :
    exec T (mkQ LMs) 1024 Try.f21.ntmps 0 (loopIn (dropC 4 (Try.f21.body.getD Code.ret))) (S1 L now draw s).fr (S1 L now draw s).H (S1 L now draw s).nx (seqK (fun fr H _ => Goes (S1 L now draw) (fun s => L.length - s.i) 0 (L.length - s.i) fr H) K) := by
  obtain ⟨i, M, hn, hi0, h1, h2⟩ := s
  dsimp only at hi hil
  subst hi
  have h8 := vl_len hv
  have hiM : 5 < M.length := by omega
  have hS : SdOk (M.getD 5 default) := by rw [h2 _ (Nat.le_refl _)]; exact (vl_mem hv _ (getD_in hil)).2
  have hk := hS.k
  have hh := hS.n
  have hmn := hS.mn
  have w3 : IntKind.i64.wrap ((5 : Int) + 1) = ((5 + 1 : Nat) : Int) := rfl
  unfold S1
  dsimp only
  repeat' (first | (apply And.intro <;> intro hc <;> (first | exact Bool.noConfusion hc | (exfalso; first | exact absurd rfl hc | omega) | (simp only [decide_eq_true_eq, decide_eq_false_iff_not, Bool.not_eq_true', Bool.not_eq_false', beq_iff_eq, beq_eq_false_iff_ne, bne_iff_ne, bne_eq_false_iff_eq, Bool.true_eq_false, Bool.false_eq_true, ne_eq, not_true_eq_false] at hc <;> first | exact absurd rfl hc | (exfalso; first | exact absurd rfl hc | omega) | skip) | skip)) | (refine And.intro (by first | exact trivial | decide | omega | (dsimp only; omega) | exact fun _ _ => rfl | exact ⟨by assumption, by first | exact trivial | decide | omega | (dsimp only; omega)⟩) ?_) | (apply And.intro) | (intro s hs; skip) | (refine Exists.intro _ (And.intro ⟨rfl, rfl, rfl⟩ ?_)))
  conv => whnf
  obtain ⟨W, eW⟩ : ∃ W, lastF now (M.getD 5 default).held (M.getD 5 default).mn = W := ⟨_, rfl⟩
  refine loop_intro (mono_of LMs_ok) (fun s : {p : Nat × Int // p.1 ≤ (M.getD 5 default).held.length ∧ lastF now ((M.getD 5 default).held.drop p.1) p.2 = W} => (⟨[(1, one (.int .i64 now)), (2, one (.int .u32 draw)), (9, one (.os 1 0 M.length)), (31, one (.int .i64 (L.length : Int))), (32, one (.int .i64 ((5 : Nat) : Int))), (10, one (.int .i64 ((5 : Nat) : Int))), (11, one (.int .i64 s.1.2)), (44, one (.os 7 0 (M.getD 5 default).held.length)), (45, one (.int .i64 ((M.getD 5 default).held.length : Int))), (46, one (.int .i64 (s.1.1 : Int)))], (1, some (entP 2 M.length M)) :: hepP 2 M, 10⟩ : Hd)) (fun s => (M.getD 5 default).held.length - s.1.1) (fun _ => rfl) ?_ ⟨(0, (M.getD 5 default).mn), Nat.zero_le _, eW⟩ [] ⟨rfl, ⟨leF_int rfl, leF_int rfl, leF_c (leC_os rfl rfl), leF_int rfl, leF_int rfl, leF_int rfl, leF_int rfl, leF_c (leC_os rfl rfl), leF_int rfl, leF_int rfl, trivial⟩, ⟨⟨rfl, leN_entP (by omega) (lt8 rfl rfl rfl rfl rfl rfl rfl rfl)⟩, ⟨rfl, leN_entN⟩, ⟨rfl, leN_entN⟩, ⟨rfl, leN_entN⟩, ⟨rfl, leN_entN⟩, ⟨rfl, leN_entN⟩, ⟨rfl, leN_entN⟩, ⟨rfl, leN_entN⟩, ⟨rfl, leN_entN⟩, trivial⟩⟩
  rintro ⟨⟨k, l⟩, hkl, hW⟩
  dsimp only at hkl hW ⊢
  by_cases hkn : k < (M.getD 5 default).held.length
  · have w4 : IntKind.i64.wrap ((k : Int) + 1) = ((k + 1 : Nat) : Int) := (IntWalk.i64_in _ (by omega)).trans (by omega)
    have hst : lastF now ((M.getD 5 default).held.drop (k + 1)) (if ((M.getD 5 default).held.getD k default).til ≤ now then ((M.getD 5 default).held.getD k default).num + 1 else l) = W := by rw [← hW, drop_at hkn]; rfl
    have hm := vh_mem hS.h _ (getD_in hkn)
    have w5 : IntKind.i64.wrap (((M.getD 5 default).held.getD k default).num + 1) = ((M.getD 5 default).held.getD k default).num + 1 := IntWalk.i64_in _ (by omega)
    have z0 : 0 + (k : Int).toNat = k := Nat.zero_add k
    repeat' (first | (simp only [z0, w4, w5]) | (apply And.intro <;> intro hc <;> (first | exact Bool.noConfusion hc | (exfalso; first | exact absurd rfl hc | omega) | (simp only [decide_eq_true_eq, decide_eq_false_iff_not, Bool.not_eq_true', Bool.not_eq_false', beq_iff_eq, beq_eq_false_iff_ne, bne_iff_ne, bne_eq_false_iff_eq, Bool.true_eq_false, Bool.false_eq_true, ne_eq, not_true_eq_false] at hc <;> first | exact absurd rfl hc | (exfalso; first | exact absurd rfl hc | omega) | skip) | skip)) | (refine And.intro (by first | exact trivial | decide | omega | (dsimp only; omega) | exact fun _ _ => rfl | exact ⟨by assumption, by first | exact trivial | decide | omega | (dsimp only; omega)⟩) ?_) | (apply And.intro) | (intro s hs; skip) | (refine Exists.intro _ (And.intro ⟨rfl, rfl, rfl⟩ ?_)))
    · rw [if_pos hc] at hst
      conv => whnf
      exact ⟨⟨(k + 1, _), hkn, hst⟩, [], by dsimp only; omega, rfl, ⟨leF_int rfl, leF_int rfl, leF_c (leC_os rfl rfl), leF_int rfl, leF_int rfl, leF_int rfl, leF_int w5, leF_c (leC_os rfl rfl), leF_int rfl, leF_int w4, trivial⟩, ⟨⟨rfl, leN_entP (by omega) (lt8 rfl rfl rfl rfl rfl rfl rfl rfl)⟩, ⟨rfl, leN_entN⟩, ⟨rfl, leN_entN⟩, ⟨rfl, leN_entN⟩, ⟨rfl, leN_entN⟩, ⟨rfl, leN_entN⟩, ⟨rfl, leN_entN⟩, ⟨rfl, leN_entN⟩, ⟨rfl, leN_entN⟩, trivial⟩⟩
    · rw [if_neg hc] at hst
      conv => whnf
      exact ⟨⟨(k + 1, l), hkn, hst⟩, [], by dsimp only; omega, rfl, ⟨leF_int rfl, leF_int rfl, leF_c (leC_os rfl rfl), leF_int rfl, leF_int rfl, leF_int rfl, leF_int rfl, leF_c (leC_os rfl rfl), leF_int rfl, leF_int w4, trivial⟩, ⟨⟨rfl, leN_entP (by omega) (lt8 rfl rfl rfl rfl rfl rfl rfl rfl)⟩, ⟨rfl, leN_entN⟩, ⟨rfl, leN_entN⟩, ⟨rfl, leN_entN⟩, ⟨rfl, leN_entN⟩, ⟨rfl, leN_entN⟩, ⟨rfl, leN_entN⟩, ⟨rfl, leN_entN⟩, ⟨rfl, leN_entN⟩, trivial⟩⟩
  · obtain rfl : l = W := by
      rw [List.drop_of_length_le (by omega)] at hW; exact hW
    clear hW
    repeat' (first | (apply And.intro <;> intro hc <;> (first | exact Bool.noConfusion hc | (exfalso; first | exact absurd rfl hc | omega) | (simp only [decide_eq_true_eq, decide_eq_false_iff_not, Bool.not_eq_true', Bool.not_eq_false', beq_iff_eq, beq_eq_false_iff_ne, bne_iff_ne, bne_eq_false_iff_eq, Bool.true_eq_false, Bool.false_eq_true, ne_eq, not_true_eq_false] at hc <;> first | exact absurd rfl hc | (exfalso; first | exact absurd rfl hc | omega) | skip) | skip)) | (refine And.intro (by first | exact trivial | decide | omega | (dsimp only; omega) | exact fun _ _ => rfl | exact ⟨by assumption, by first | exact trivial | decide | omega | (dsimp only; omega)⟩) ?_) | (apply And.intro) | (intro s hs; skip) | (refine Exists.intro _ (And.intro ⟨rfl, rfl, rfl⟩ ?_)))
    · exact rfl
    · conv => whnf
      have eM : M.set 5 (clsS now (M.getD 5 default)) = M := by
        unfold clsS; rw [eW, show raiseS (M.getD 5 default) l = M.getD 5 default from if_pos hc]; exact set_self hiM
      exact ⟨SlI.next ⟨5, M, hn, hi0, h1, h2⟩ hil M eM, [], by dsimp only [SlI.next]; omega, rfl, ⟨leF_int rfl, leF_int rfl, leF_c (leC_os rfl rfl), leF_int rfl, leF_int rfl, trivial⟩, ⟨⟨rfl, leN_entP (by omega) (lt8 rfl rfl rfl rfl rfl rfl rfl rfl)⟩, ⟨rfl, leN_entN⟩, ⟨rfl, leN_entN⟩, ⟨rfl, leN_entN⟩, ⟨rfl, leN_entN⟩, ⟨rfl, leN_entN⟩, ⟨rfl, leN_entN⟩, ⟨rfl, leN_entN⟩, ⟨rfl, leN_entN⟩, trivial⟩⟩
    · exact Nat.le_of_eq (Nat.zero_add _)
    · exact ⟨rfl, okD_sl _⟩
    · exact Eq.mpr (congrArg KpI (toN_row0 neH_rd _)) hk
    · conv => whnf
      have q : (M.getD 5 default).held.filter (wantB (some l)) = s := (hs.trans (congrArg (List.filter (wantB (some l))) (toN_row0 neH_rd _))).symm
      clear hs
      have eX : clsS now (M.getD 5 default) = ⟨(M.getD 5 default).id, l, s⟩ := by
        unfold clsS; rw [eW]; exact (if_neg hc).trans (by rw [q])
      refine ⟨SlI.next ⟨5, M, hn, hi0, h1, h2⟩ hil _ (congrArg (M.set 5) eX), [(7, some 5148)], by dsimp only [SlI.next]; omega, rfl, ⟨leF_int rfl, leF_int rfl, leF_c (leC_os rfl (List.length_set).symm), leF_int rfl, leF_int rfl, trivial⟩, ⟨⟨rfl, ⟨rfl, (List.length_set).symm, rfl, rfl, fun p hp j hj => ?_⟩⟩, ⟨rfl, leN_eqN (congrArg Sed.held (set_ne (by decide)).symm)⟩, ⟨rfl, leN_eqN (congrArg Sed.held (set_ne (by decide)).symm)⟩, ⟨rfl, leN_eqN (congrArg Sed.held (set_ne (by decide)).symm)⟩, ⟨rfl, leN_eqN (congrArg Sed.held (set_ne (by decide)).symm)⟩, ⟨rfl, leN_eqN (congrArg Sed.held (set_ne (by decide)).symm)⟩, ⟨rfl, leN_eqN (congrArg Sed.held (set_at (s := ⟨(M.getD 5 default).id, l, s⟩) hiM).symm)⟩, ⟨rfl, leN_eqN (congrArg Sed.held (set_ne (by decide)).symm)⟩, ⟨rfl, leN_eqN (congrArg Sed.held (set_ne (by decide)).symm)⟩, trivial⟩⟩
      have hp : p < M.length := hp
      have hj : j < 3 := hj
      rcases (show p = 0 ∨ p = 1 ∨ p = 2 ∨ p = 3 ∨ p = 4 ∨ p = 5 ∨ p = 6 ∨ p = 7 by omega) with rfl | rfl | rfl | rfl | rfl | rfl | rfl | rfl
      all_goals first
        | exact rowP_set_ne hj (by decide) ((updE_ne (by decide)).trans (updE_ne (by decide))) rfl
        | skip
      refine rowP_set_at hiM ?_
      rcases j with _ | _ | _ | j
      · exact leC_int rfl
      · exact leC_int rfl
      · exact leC_os rfl rfl
      · omega
set_option maxHeartbeats 8000000 in
set_option maxRecDepth 20000 in
theorem st1_6 (L : List Sed) (now draw : Int) (hv : validL L = true) (s : SlI L now) (hi : s.i = 6) (hil : s.i < L.length) (K : Kt) :
    exec T (mkQ LMs) 1024 Try.f21.ntmps 0 (loopIn (dropC 4 (Try.f21.body.getD Code.ret))) (S1 L now draw s).fr (S1 L now draw s).H (S1 L now draw s).nx (seqK (fun fr H _ => Goes (S1 L now draw) (fun s => L.length - s.i) 0 (L.length - s.i) fr H) K) := by
  obtain ⟨i, M, hn, hi0, h1, h2⟩ := s
  dsimp only at hi hil
  subst hi
  have h8 := vl_len hv
  have hiM : 6 < M.length := by omega
  have hS : SdOk (M.getD 6 default) := by rw [h2 _ (Nat.le_refl _)]; exact (vl_mem hv _ (getD_in hil)).2
  have hk := hS.k
  have hh := hS.n
  have hmn := hS.mn
  have w3 : IntKind.i64.wrap ((6 : Int) + 1) = ((6 + 1 : Nat) : Int) := rfl
  unfold S1
  dsimp only
  repeat' (first | (apply And.intro <;> intro hc <;> (first | exact Bool.noConfusion hc | (exfalso; first | exact absurd rfl hc | omega) | (simp only [decide_eq_true_eq, decide_eq_false_iff_not, Bool.not_eq_true', Bool.not_eq_false', beq_iff_eq, beq_eq_false_iff_ne, bne_iff_ne, bne_eq_false_iff_eq, Bool.true_eq_false, Bool.false_eq_true, ne_eq, not_true_eq_false] at hc <;> first | exact absurd rfl hc | (exfalso; first | exact absurd rfl hc | omega) | skip) | skip)) | (refine And.intro (by first | exact trivial | decide | omega | (dsimp only; omega) | exact fun _ _ => rfl | exact ⟨by assumption, by first | exact trivial | decide | omega | (dsimp only; omega)⟩) ?_) | (apply And.intro) | (intro s hs; skip) | (refine Exists.intro _ (And.intro ⟨rfl, rfl, rfl⟩ ?_)))
  conv => whnf
  obtain ⟨W, eW⟩ : ∃ W, lastF now (M.getD 6 default).held (M.getD 6 default).mn = W := ⟨_, rfl⟩
  refine loop_intro (mono_of LMs_ok) (fun s : {p : Nat × Int // p.1 ≤ (M.getD 6 default).held.length ∧ lastF now ((M.getD 6 default).held.drop p.1) p.2 = W} => (⟨[(1, one (.int .i64 now)), (2, one (.int .u32 draw)), (9, one (.os 1 0 M.length)), (31, one (.int .i64 (L.length : Int))), (32, one (.int .i64 ((6 : Nat) : Int))), (10, one (.int .i64 ((6 : Nat) : Int))), (11, one (.int .i64 s.1.2)), (44, one (.os 8 0 (M.getD 6 default).held.length)), (45, one (.int .i64 ((M.getD 6 default).held.length : Int))), (46, one (.int .i64 (s.1.1 : Int)))], (1, some (entP 2 M.length M)) :: hepP 2 M, 10⟩ : Hd)) (fun s => (M.getD 6 default).held.length - s.1.1) (fun _ => rfl) ?_ ⟨(0, (M.getD 6 default).mn), Nat.zero_le _, eW⟩ [] ⟨rfl, ⟨leF_int rfl, leF_int rfl, leF_c (leC_os rfl rfl), leF_int rfl, leF_int rfl, leF_int rfl, leF_int rfl, leF_c (leC_os rfl rfl), leF_int rfl, leF_int rfl, trivial⟩, ⟨⟨rfl, leN_entP (by omega) (lt8 rfl rfl rfl rfl rfl rfl rfl rfl)⟩, ⟨rfl, leN_entN⟩, ⟨rfl, leN_entN⟩, ⟨rfl, leN_entN⟩, ⟨rfl, leN_entN⟩, ⟨rfl, leN_entN⟩, ⟨rfl, leN_entN⟩, ⟨rfl, leN_entN⟩, ⟨rfl, leN_entN⟩, trivial⟩⟩
  rintro ⟨⟨k, l⟩, hkl, hW⟩
  dsimp only at hkl hW ⊢
  by_cases hkn : k < (M.getD 6 default).held.length
  · have w4 : IntKind.i64.wrap ((k : Int) + 1) = ((k + 1 : Nat) : Int) := (IntWalk.i64_in _ (by omega)).trans (by omega)
    have hst : lastF now ((M.getD 6 default).held.drop (k + 1)) (if ((M.getD 6 default).held.getD k default).til ≤ now then ((M.getD 6 default).held.getD k default).num + 1 else l) = W := by rw [← hW, drop_at hkn]; rfl
    have hm := vh_mem hS.h _ (getD_in hkn)
    have w5 : IntKind.i64.wrap (((M.getD 6 default).held.getD k default).num + 1) = ((M.getD 6 default).held.getD k default).num + 1 := IntWalk.i64_in _ (by omega)
    have z0 : 0 + (k : Int).toNat = k := Nat.zero_add k
    repeat' (first | (simp only [z0, w4, w5]) | (apply And.intro <;> intro hc <;> (first | exact Bool.noConfusion hc | (exfalso; first | exact absurd rfl hc | omega) | (simp only [decide_eq_true_eq, decide_eq_false_iff_not, Bool.not_eq_true', Bool.not_eq_false', beq_iff_eq, beq_eq_false_iff_ne, bne_iff_ne, bne_eq_false_iff_eq, Bool.true_eq_false, Bool.false_eq_true, ne_eq, not_true_eq_false] at hc <;> first | exact absurd rfl hc | (exfalso; first | exact absurd rfl hc | omega) | skip) | skip)) | (refine And.intro (by first | exact trivial | decide | omega | (dsimp only; omega) | exact fun _ _ => rfl | exact ⟨by assumption, by first | exact trivial | decide | omega | (dsimp only; omega)⟩) ?_) | (apply And.intro) | (intro s hs; skip) | (refine Exists.intro _ (And.intro ⟨rfl, rfl, rfl⟩ ?_)))
    · rw [if_pos hc] at hst
      conv => whnf
      exact ⟨⟨(k + 1, _), hkn, hst⟩, [], by dsimp only; omega, rfl, ⟨leF_int rfl, leF_int rfl, leF_c (leC_os rfl rfl), leF_int rfl, leF_int rfl, leF_int rfl, leF_int w5, leF_c (leC_os rfl rfl), leF_int rfl, leF_int w4, trivial⟩, ⟨⟨rfl, leN_entP (by omega) (lt8 rfl rfl rfl rfl rfl rfl rfl rfl)⟩, ⟨rfl, leN_entN⟩, ⟨rfl, leN_entN⟩, ⟨rfl, leN_entN⟩, ⟨rfl, leN_entN⟩, ⟨rfl, leN_entN⟩, ⟨rfl, leN_entN⟩, ⟨rfl, leN_entN⟩, ⟨rfl, leN_entN⟩, trivial⟩⟩
    · rw [if_neg hc] at hst
      conv => whnf
      exact ⟨⟨(k + 1, l), hkn, hst⟩, [], by dsimp only; omega, rfl, ⟨leF_int rfl, leF_int rfl, leF_c (leC_os rfl rfl), leF_int rfl, leF_int rfl, leF_int rfl, leF_int rfl, leF_c (leC_os rfl rfl), leF_int rfl, leF_int w4, trivial⟩, ⟨⟨rfl, leN_entP (by omega) (lt8 rfl rfl rfl rfl rfl rfl rfl rfl)⟩, ⟨rfl, leN_entN⟩, ⟨rfl, leN_entN⟩, ⟨rfl, leN_entN⟩, ⟨rfl, leN_entN⟩, ⟨rfl, leN_entN⟩, ⟨rfl, leN_entN⟩, ⟨rfl, leN_entN⟩, ⟨rfl, leN_entN⟩, trivial⟩⟩
  · obtain rfl : l = W := by
      rw [List.drop_of_length_le (by omega)] at hW; exact hW
    clear hW
    repeat' (first | (apply And.intro <;> intro hc <;> (first | exact Bool.noConfusion hc | (exfalso; first | exact absurd rfl hc | omega) | (simp only [decide_eq_true_eq, decide_eq_false_iff_not, Bool.not_eq_true', Bool.not_eq_false', beq_iff_eq, beq_eq_false_iff_ne, bne_iff_ne, bne_eq_false_iff_eq, Bool.true_eq_false, Bool.false_eq_true, ne_eq, not_true_eq_false] at hc <;> first | exact absurd rfl hc | (exfalso; first | exact absurd rfl hc | omega) | skip) | skip)) | (refine And.intro (by first | exact trivial | decide | omega | (dsimp only; omega) | exact fun _ _ => rfl | exact ⟨by assumption, by first | exact trivial | decide | omega | (dsimp only; omega)⟩) ?_) | (apply And.intro) | (intro s hs; skip) | (refine Exists.intro _ (And.intro ⟨rfl, rfl, rfl⟩ ?_)))
    · exact rfl
    · conv => whnf
      have eM : M.set 6 (clsS now (M.getD 6 default)) = M := by
        unfold clsS; rw [eW, show raiseS (M.getD 6 default) l = M.getD 6 default from if_pos hc]; exact set_self hiM
      exact ⟨SlI.next ⟨6, M, hn, hi0, h1, h2⟩ hil M eM, [], by dsimp only [SlI.next]; omega, rfl, ⟨leF_int rfl, leF_int rfl, leF_c (leC_os rfl rfl), leF_int rfl, leF_int rfl, trivial⟩, ⟨⟨rfl, leN_entP (by omega) (lt8 rfl rfl rfl rfl rfl rfl rfl rfl)⟩, ⟨rfl, leN_entN⟩, ⟨rfl, leN_entN⟩, ⟨rfl, leN_entN⟩, ⟨rfl, leN_entN⟩, ⟨rfl, leN_entN⟩, ⟨rfl, leN_entN⟩, ⟨rfl, leN_entN⟩, ⟨rfl, leN_entN⟩, trivial⟩⟩
    · exact Nat.le_of_eq (Nat.zero_add _)
    · exact ⟨rfl, okD_sl _⟩
    · exact Eq.mpr (congrArg KpI (toN_row0 neH_rd _)) hk
    · conv => whnf
      have q : (M.getD 6 default).held.filter (wantB (some l)) = s := (hs.trans (congrArg (List.filter (wantB (some l))) (toN_row0 neH_rd _))).symm
      clear hs
      have eX : clsS now (M.getD 6 default) = ⟨(M.getD 6 default).id, l, s⟩ := by
        unfold clsS; rw [eW]; exact (if_neg hc).trans (by rw [q])
      refine ⟨SlI.next ⟨6, M, hn, hi0, h1, h2⟩ hil _ (congrArg (M.set 6) eX), [(8, some 5148)], by dsimp only [SlI.next]; omega, rfl, ⟨leF_int rfl, leF_int rfl, leF_c (leC_os rfl (List.length_set).symm), leF_int rfl, leF_int rfl, trivial⟩, ⟨⟨rfl, ⟨rfl, (List.length_set).symm, rfl, rfl, fun p hp j hj => ?_⟩⟩, ⟨rfl, leN_eqN (congrArg Sed.held (set_ne (by decide)).symm)⟩, ⟨rfl, leN_eqN (congrArg Sed.held (set_ne (by decide)).symm)⟩, ⟨rfl, leN_eqN (congrArg Sed.held (set_ne (by decide)).symm)⟩, ⟨rfl, leN_eqN (congrArg Sed.held (set_ne (by decide)).symm)⟩, ⟨rfl, leN_eqN (congrArg Sed.held (set_ne (by decide)).symm)⟩, ⟨rfl, leN_eqN (congrArg Sed.held (set_ne (by decide)).symm)⟩, ⟨rfl, leN_eqN (congrArg Sed.held (set_at (s := ⟨(M.getD 6 default).id, l, s⟩) hiM).symm)⟩, ⟨rfl, leN_eqN (congrArg Sed.held (set_ne (by decide)).symm)⟩, trivial⟩⟩
      have hp : p < M.length := hp
      have hj : j < 3 := hj
      rcases (show p = 0 ∨ p = 1 ∨ p = 2 ∨ p = 3 ∨ p = 4 ∨ p = 5 ∨ p = 6 ∨ p = 7 by omega) with rfl | rfl | rfl | rfl | rfl | rfl | rfl | rfl
      all_goals first
        | exact rowP_set_ne hj (by decide) ((updE_ne (by decide)).trans (updE_ne (by decide))) rfl
        | skip
      refine rowP_set_at hiM ?_
      rcases j with _ | _ | _ | j
      · exact leC_int rfl
      · exact leC_int rfl
      · exact leC_os rfl rfl
      · omega
set_option maxHeartbeats 8000000 in
set_option maxRecDepth 20000 in
theorem st1_7 (L : List Sed) (now draw : Int) (hv : validL L = true) (s : SlI L now) (hi : s.i = 7) (hil : s.i < L.length) (K : Kt) :
    exec T (mkQ LMs) 1024 Try.f21.ntmps 0 (loopIn (dropC 4 (Try.f21.body.getD Code.ret))) (S1 L now draw s).fr (S1 L now draw s).H (S1 L now draw s).nx (seqK (fun fr H _ => Goes (S1 L now draw) (fun s => L.length - s.i) 0 (L.length - s.i) fr H) K) := by
  obtain ⟨i, M, hn, hi0, h1, h2⟩ := s
  dsimp only at hi hil
  subst hi
  have h8 := vl_len hv
  have hiM : 7 < M.length := by omega
  have hS : SdOk (M.getD 7 default) := by rw [h2 _ (Nat.le_refl _)]; exact (vl_mem hv _ (getD_in hil)).2
  have hk := hS.k
  have hh := hS.n
  have hmn := hS.mn
  have w3 : IntKind.i64.wrap ((7 : Int) + 1) = ((7 + 1 : Nat) : Int) := rfl
  unfold S1
  dsimp only
  repeat' (first | (apply And.intro <;> intro hc <;> (first | exact Bool.noConfusion hc | (exfalso; first | exact absurd rfl hc | omega) | (simp only [decide_eq_true_eq, decide_eq_false_iff_not, Bool.not_eq_true', Bool.not_eq_false', beq_iff_eq, beq_eq_false_iff_ne, bne_iff_ne, bne_eq_false_iff_eq, Bool.true_eq_false, Bool.false_eq_true, ne_eq, not_true_eq_false] at hc <;> first | exact absurd rfl hc | (exfalso; first | exact absurd rfl hc | omega) | skip) | skip)) | (refine And.intro (by first | exact trivial | decide | omega | (dsimp only; omega) | exact fun _ _ => rfl | exact ⟨by assumption, by first | exact trivial | decide | omega | (dsimp only; omega)⟩) ?_) | (apply And.intro) | (intro s hs; skip) | (refine Exists.intro _ (And.intro ⟨rfl, rfl, rfl⟩ ?_)))
  conv => whnf
  obtain ⟨W, eW⟩ : ∃ W, lastF now (M.getD 7 default).held (M.getD 7 default).mn = W := ⟨_, rfl⟩
  refine loop_intro (mono_of LMs_ok) (fun s : {p : Nat × Int // p.1 ≤ (M.getD 7 default).held.length ∧ lastF now ((M.getD 7 default).held.drop p.1) p.2 = W} => (⟨[(1, one (.int .i64 now)), (2, one (.int .u32 draw)), (9, one (.os 1 0 M.length)), (31, one (.int .i64 (L.length : Int))), (32, one (.int .i64 ((7 : Nat) : Int))), (10, one (.int .i64 ((7 : Nat) : Int))), (11, one (.int .i64 s.1.2)), (44, one (.os 9 0 (M.getD 7 default).held.length)), (45, one (.int .i64 ((M.getD 7 default).held.length : Int))), (46, one (.int .i64 (s.1.1 : Int)))], (1, some (entP 2 M.length M)) :: hepP 2 M, 10⟩ : Hd)) (fun s => (M.getD 7 default).held.length - s.1.1) (fun _ => rfl) ?_ ⟨(0, (M.getD 7 default).mn), Nat.zero_le _, eW⟩ [] ⟨rfl, ⟨leF_int rfl, leF_int rfl, leF_c (leC_os rfl rfl), leF_int rfl, leF_int rfl, leF_int rfl, leF_int rfl, leF_c (leC_os rfl rfl), leF_int rfl, leF_int rfl, trivial⟩, ⟨⟨rfl, leN_entP (by omega) (lt8 rfl rfl rfl rfl rfl rfl rfl rfl)⟩, ⟨rfl, leN_entN⟩, ⟨rfl, leN_entN⟩, ⟨rfl, leN_entN⟩, ⟨rfl, leN_entN⟩, ⟨rfl, leN_entN⟩, ⟨rfl, leN_entN⟩, ⟨rfl, leN_entN⟩, ⟨rfl, leN_entN⟩, trivial⟩⟩
  rintro ⟨⟨k, l⟩, hkl, hW⟩
  dsimp only at hkl hW ⊢
  by_cases hkn : k < (M.getD 7 default).held.length
  · have w4 : IntKind.i64.wrap ((k : Int) + 1) = ((k + 1 : Nat) : Int) := (IntWalk.i64_in _ (by omega)).trans (by omega)
    have hst : lastF now ((M.getD 7 default).held.drop (k + 1)) (if ((M.getD 7 default).held.getD k default).til ≤ now then ((M.getD 7 default).held.getD k default).num + 1 else l) = W := by rw [← hW, drop_at hkn]; rfl
    have hm := vh_mem hS.h _ (getD_in hkn)
    have w5 : IntKind.i64.wrap (((M.getD 7 default).held.getD k default).num + 1) = ((M.getD 7 default).held.getD k default).num + 1 := IntWalk.i64_in _ (by omega)
    have z0 : 0 + (k : Int).toNat = k := Nat.zero_add k
    repeat' (first | (simp only [z0, w4, w5]) | (apply And.intro <;> intro hc <;> (first | exact Bool.noConfusion hc | (exfalso; first | exact absurd rfl hc | omega) | (simp only [decide_eq_true_eq, decide_eq_false_iff_not, Bool.not_eq_true', Bool.not_eq_false', beq_iff_eq, beq_eq_false_iff_ne, bne_iff_ne, bne_eq_false_iff_eq, Bool.true_eq_false, Bool.false_eq_true, ne_eq, not_true_eq_false] at hc <;> first | exact absurd rfl hc | (exfalso; first | exact absurd rfl hc | omega) | skip) | skip)) | (refine And.intro (by first | exact trivial | decide | omega | (dsimp only; omega) | exact fun _ _ => rfl | exact ⟨by assumption, by first | exact trivial | decide | omega | (dsimp only; omega)⟩) ?_) | (apply And.intro) | (intro s hs; skip) | (refine Exists.intro _ (And.intro ⟨rfl, rfl, rfl⟩ ?_)))
    · rw [if_pos hc] at hst
      conv => whnf
      exact ⟨⟨(k + 1, _), hkn, hst⟩, [], by dsimp only; omega, rfl, ⟨leF_int rfl, leF_int rfl, leF_c (leC_os rfl rfl), leF_int rfl, leF_int rfl, leF_int rfl, leF_int w5, leF_c (leC_os rfl rfl), leF_int rfl, leF_int w4, trivial⟩, ⟨⟨rfl, leN_entP (by omega) (lt8 rfl rfl rfl rfl rfl rfl rfl rfl)⟩, ⟨rfl, leN_entN⟩, ⟨rfl, leN_entN⟩, ⟨rfl, leN_entN⟩, ⟨rfl, leN_entN⟩, ⟨rfl, leN_entN⟩, ⟨rfl, leN_entN⟩, ⟨rfl, leN_entN⟩, ⟨rfl, leN_entN⟩, trivial⟩⟩
    · rw [if_neg hc] at hst
      conv => whnf
      exact ⟨⟨(k + 1, l), hkn, hst⟩, [], by dsimp only; omega, rfl, ⟨leF_int rfl, leF_int rfl, leF_c (leC_os rfl rfl), leF_int rfl, leF_int rfl, leF_int rfl, leF_int rfl, leF_c (leC_os rfl rfl), leF_int rfl, leF_int w4, trivial⟩, ⟨⟨rfl, leN_entP (by omega) (lt8 rfl rfl rfl rfl rfl rfl rfl rfl)⟩, ⟨rfl, leN_entN⟩, ⟨rfl, leN_entN⟩, ⟨rfl, leN_entN⟩, ⟨rfl, leN_entN⟩, ⟨rfl, leN_entN⟩, ⟨rfl, leN_entN⟩, ⟨rfl, leN_entN⟩, ⟨rfl, leN_entN⟩, trivial⟩⟩
  · obtain rfl : l = W := by
      rw [List.drop_of_length_le (by omega)] at hW; exact hW
    clear hW
    repeat' (first | (apply And.intro <;> intro hc <;> (first | exact Bool.noConfusion hc | (exfalso; first | exact absurd rfl hc | omega) | (simp only [decide_eq_true_eq, decide_eq_false_iff_not, Bool.not_eq_true', Bool.not_eq_false', beq_iff_eq, beq_eq_false_iff_ne, bne_iff_ne, bne_eq_false_iff_eq, Bool.true_eq_false, Bool.false_eq_true, ne_eq, not_true_eq_false] at hc <;> first | exact absurd rfl hc | (exfalso; first | exact absurd rfl hc | omega) | skip) | skip)) | (refine And.intro (by first | exact trivial | decide | omega | (dsimp only; omega) | exact fun _ _ => rfl | exact ⟨by assumption, by first | exact trivial | decide | omega | (dsimp only; omega)⟩) ?_) | (apply And.intro) | (intro s hs; skip) | (refine Exists.intro _ (And.intro ⟨rfl, rfl, rfl⟩ ?_)))
    · exact rfl
    · conv => whnf
      have eM : M.set 7 (clsS now (M.getD 7 default)) = M := by
        unfold clsS; rw [eW, show raiseS (M.getD 7 default) l = M.getD 7 default from if_pos hc]; exact set_self hiM
      exact ⟨SlI.next ⟨7, M, hn, hi0, h1, h2⟩ hil M eM, [], by dsimp only [SlI.next]; omega, rfl, ⟨leF_int rfl, leF_int rfl, leF_c (leC_os rfl rfl), leF_int rfl, leF_int rfl, trivial⟩, ⟨⟨rfl, leN_entP (by omega) (lt8 rfl rfl rfl rfl rfl rfl rfl rfl)⟩, ⟨rfl, leN_entN⟩, ⟨rfl, leN_entN⟩, ⟨rfl, leN_entN⟩, ⟨rfl, leN_entN⟩, ⟨rfl, leN_entN⟩, ⟨rfl, leN_entN⟩, ⟨rfl, leN_entN⟩, ⟨rfl, leN_entN⟩, trivial⟩⟩
    · exact Nat.le_of_eq (Nat.zero_add _)
    · exact ⟨rfl, okD_sl _⟩
    · exact Eq.mpr (congrArg KpI (toN_row0 neH_rd _)) hk
    · conv => whnf
      have q : (M.getD 7 default).held.filter (wantB (some l)) = s := (hs.trans (congrArg (List.filter (wantB (some l))) (toN_row0 neH_rd _))).symm
      clear hs
      have eX : clsS now (M.getD 7 default) = ⟨(M.getD 7 default).id, l, s⟩ := by
        unfold clsS; rw [eW]; exact (if_neg hc).trans (by rw [q])
      refine ⟨SlI.next ⟨7, M, hn, hi0, h1, h2⟩ hil _ (congrArg (M.set 7) eX), [(9, some 5148)], by dsimp only [SlI.next]; omega, rfl, ⟨leF_int rfl, leF_int rfl, leF_c (leC_os rfl (List.length_set).symm), leF_int rfl, leF_int rfl, trivial⟩, ⟨⟨rfl, ⟨rfl, (List.length_set).symm, rfl, rfl, fun p hp j hj => ?_⟩⟩, ⟨rfl, leN_eqN (congrArg Sed.held (set_ne (by decide)).symm)⟩, ⟨rfl, leN_eqN (congrArg Sed.held (set_ne (by decide)).symm)⟩, ⟨rfl, leN_eqN (congrArg Sed.held (set_ne (by decide)).symm)⟩, ⟨rfl, leN_eqN (congrArg Sed.held (set_ne (by decide)).symm)⟩, ⟨rfl, leN_eqN (congrArg Sed.held (set_ne (by decide)).symm)⟩, ⟨rfl, leN_eqN (congrArg Sed.held (set_ne (by decide)).symm)⟩, ⟨rfl, leN_eqN (congrArg Sed.held (set_ne (by decide)).symm)⟩, ⟨rfl, leN_eqN (congrArg Sed.held (set_at (s := ⟨(M.getD 7 default).id, l, s⟩) hiM).symm)⟩, trivial⟩⟩
      have hp : p < M.length := hp
      have hj : j < 3 := hj
      rcases (show p = 0 ∨ p = 1 ∨ p = 2 ∨ p = 3 ∨ p = 4 ∨ p = 5 ∨ p = 6 ∨ p = 7 by omega) with rfl | rfl | rfl | rfl | rfl | rfl | rfl | rfl
      all_goals first
        | exact rowP_set_ne hj (by decide) ((updE_ne (by decide)).trans (updE_ne (by decide))) rfl
        | skip
      refine rowP_set_at hiM ?_
      rcases j with _ | _ | _ | j
      · exact leC_int rfl
      · exact leC_int rfl
      · exact leC_os rfl rfl
      · omega
theorem st1_all (L : List Sed) (now draw : Int) (hv : validL L = true) (s : SlI L now) (hil : s.i < L.length) (K : Kt) :
    exec T (mkQ LMs) 1024 Try.f21.ntmps 0 (loopIn (dropC 4 (Try.f21.body.getD Code.ret))) (S1 L now draw s).fr (S1 L now draw s).H (S1 L now draw s).nx (seqK (fun fr H _ => Goes (S1 L now draw) (fun s => L.length - s.i) 0 (L.length - s.i) fr H) K) := by
  have h8 := vl_len hv
  rcases (show s.i = 0 ∨ s.i = 1 ∨ s.i = 2 ∨ s.i = 3 ∨ s.i = 4 ∨ s.i = 5 ∨ s.i = 6 ∨ s.i = 7 by omega) with h | h | h | h | h | h | h | h
  · exact st1_0 L now draw hv s h hil K
  · exact st1_1 L now draw hv s h hil K
  · exact st1_2 L now draw hv s h hil K
  · exact st1_3 L now draw hv s h hil K
  · exact st1_4 L now draw hv s h hil K
  · exact st1_5 L now draw hv s h hil K
  · exact st1_6 L now draw hv s h hil K
  · exact st1_7 L now draw hv s h hil K
end Go.Proofs.Ytfaibcgakcmhcaa.AX

/- Multicast, plain: the states of Step's second loop. -/
namespace Go.Proofs.Ytfaibcgakcmhcaa.AX
set_option linter.unusedVariables false
set_option linter.unusedSimpArgs false
theorem take_set {α : Type} {L : List α} {i : Nat} {x : α} (h : i < L.length) : (L.set i x).take (i + 1) = L.take i ++ [x] := by
  induction L generalizing i with
  | nil => exact absurd h (Nat.not_lt_zero _)
  | cons a t ih =>
    cases i with
    | zero => rfl
    | succ i => show a :: ((t.set i x).take (i + 1)) = a :: (t.take i ++ [x]); rw [ih (by simpa using h)]
theorem dropAt {α : Type} {L : List α} {d : α} {i : Nat} (h : i < L.length) : L.drop i = L.getD i d :: L.drop (i + 1) := by
  rw [List.drop_eq_getElem_cons h, List.getD_eq_getElem?_getD, List.getElem?_eq_getElem h]; rfl
def oneH (id now draw : Int) (h : Hel) (b : Nat) : Hel × List Cas :=
  if h.tm.start ≤ now then ({ h with tm := (stepT h.tm now (IntKind.u32.wrap (draw + (b : Int)))).1 }, if (stepT h.tm now (IntKind.u32.wrap (draw + (b : Int)))).2.1 = true then [⟨id, h.num, h.data⟩] else []) else (h, [])
theorem runH_cons {id now draw : Int} {h : Hel} {t : List Hel} {b : Nat} : runH id now draw (h :: t) b = ((oneH id now draw h b).1 :: (runH id now draw t (b + 1)).1, (oneH id now draw h b).2 ++ (runH id now draw t (b + 1)).2) := by
  unfold oneH
  show (if h.tm.start ≤ now then _ else _) = _
  split
  · split
    · rfl
    · rfl
  · rfl
theorem oneH_len {id now draw : Int} {h : Hel} {b : Nat} : (oneH id now draw h b).2.length ≤ 1 := by
  unfold oneH
  split
  · split
    · exact Nat.le_refl _
    · exact Nat.zero_le _
  · exact Nat.zero_le _
theorem runH_len2 {id now draw : Int} : ∀ {L : List Hel} {b : Nat}, (runH id now draw L b).2.length ≤ L.length := by
  intro L
  induction L with
  | nil => intro _; exact Nat.le_refl _
  | cons h t ih =>
    intro b
    rw [runH_cons]
    have h1 := oneH_len (id := id) (now := now) (draw := draw) (h := h) (b := b)
    have h2 := ih (b := b + 1)
    show ((oneH id now draw h b).2 ++ (runH id now draw t (b + 1)).2).length ≤ t.length + 1
    rw [List.length_append]; omega
structure StI (M0 : List Sed) (now draw : Int) where
  i : Nat
  M : List Sed
  Z : List Cas
  b : Nat
  n : M.length = M0.length
  hi : i ≤ M0.length
  hb : b ≤ 32 * i
  hz : Z.length ≤ b
  h2 : ∀ p, i ≤ p → M.getD p default = M0.getD p default
  r1 : M.take i ++ (runL now draw (M0.drop i) b).1 = (runL now draw M0 0).1
  r2 : Z ++ (runL now draw (M0.drop i) b).2 = (runL now draw M0 0).2
def StI.next {M0 : List Sed} {now draw : Int} (s : StI M0 now draw) (h : s.i < M0.length) (h32 : (M0.getD s.i default).held.length ≤ 32) : StI M0 now draw where
  i := s.i + 1
  M := s.M.set s.i { M0.getD s.i default with held := (runH (M0.getD s.i default).id now draw (M0.getD s.i default).held s.b).1 }
  Z := s.Z ++ (runH (M0.getD s.i default).id now draw (M0.getD s.i default).held s.b).2
  b := s.b + (M0.getD s.i default).held.length
  n := by rw [List.length_set]; exact s.n
  hi := h
  hb := by have := s.hb; omega
  hz := by
    have h1 := s.hz
    have h2 := runH_len2 (id := (M0.getD s.i default).id) (now := now) (draw := draw) (L := (M0.getD s.i default).held) (b := s.b)
    rw [List.length_append]; omega
  h2 p hp := by rw [List.getD_eq_getElem?_getD, List.getElem?_set, if_neg (by omega), ← List.getD_eq_getElem?_getD]; exact s.h2 p (by omega)
  r1 := by
    have e := s.r1
    rw [dropAt (d := default) h] at e
    rw [take_set (by rw [s.n]; exact h), List.append_assoc]
    exact e
  r2 := by
    have e := s.r2
    rw [dropAt (d := default) h] at e
    rw [List.append_assoc]
    exact e
structure InI (H0 : List Hel) (id now draw : Int) (b : Nat) (Z0 : List Cas) where
  k : Nat
  H : List Hel
  Z : List Cas
  n : H.length = H0.length
  hk : k ≤ H0.length
  hz : Z.length ≤ Z0.length + k
  h2 : ∀ p, k ≤ p → H.getD p default = H0.getD p default
  r1 : H.take k ++ (runH id now draw (H0.drop k) (b + k)).1 = (runH id now draw H0 b).1
  r2 : Z ++ (runH id now draw (H0.drop k) (b + k)).2 = Z0 ++ (runH id now draw H0 b).2
def InI.next {H0 : List Hel} {id now draw : Int} {b : Nat} {Z0 : List Cas} (s : InI H0 id now draw b Z0) (h : s.k < H0.length) (H' : List Hel) (Z' : List Cas) (e1 : s.H.set s.k (oneH id now draw (H0.getD s.k default) (b + s.k)).1 = H') (e2 : s.Z ++ (oneH id now draw (H0.getD s.k default) (b + s.k)).2 = Z') : InI H0 id now draw b Z0 where
  k := s.k + 1
  H := H'
  Z := Z'
  n := by rw [← e1, List.length_set]; exact s.n
  hk := h
  hz := by
    have h1 := s.hz
    have h2 := oneH_len (id := id) (now := now) (draw := draw) (h := H0.getD s.k default) (b := b + s.k)
    rw [← e2, List.length_append]; omega
  h2 p hp := by rw [← e1, List.getD_eq_getElem?_getD, List.getElem?_set, if_neg (by omega), ← List.getD_eq_getElem?_getD]; exact s.h2 p (by omega)
  r1 := by
    have e := s.r1
    rw [dropAt (d := default) h, runH_cons] at e
    rw [← e1, take_set (by rw [s.n]; exact h), List.append_assoc]
    exact e
  r2 := by
    have e := s.r2
    rw [dropAt (d := default) h, runH_cons] at e
    rw [← e2, List.append_assoc]
    exact e
def InI.start (H0 : List Hel) (id now draw : Int) (b : Nat) (Z0 : List Cas) : InI H0 id now draw b Z0 := ⟨0, H0, Z0, rfl, Nat.zero_le _, Nat.le_refl _, fun _ _ => rfl, rfl, rfl⟩
theorem InI.last {H0 : List Hel} {id now draw : Int} {b : Nat} {Z0 : List Cas} (s : InI H0 id now draw b Z0) (h : ¬ s.k < H0.length) : s.H = (runH id now draw H0 b).1 ∧ s.Z = Z0 ++ (runH id now draw H0 b).2 := by
  have hk := s.hk
  have e1 := s.r1
  have e2 := s.r2
  rw [List.drop_of_length_le (by omega)] at e1 e2
  rw [List.take_of_length_le (by rw [s.n]; omega)] at e1
  rw [← e1, ← e2]
  exact ⟨(List.append_nil _).symm, (List.append_nil _).symm⟩
theorem one_no {id now draw : Int} {h : Hel} {b : Nat} (hs : ¬ h.tm.start ≤ now) : oneH id now draw h b = (h, []) := if_neg hs
theorem one_yes {id now draw : Int} {h : Hel} {b : Nat} {T : Trk × Bool × Int} (hs : h.tm.start ≤ now) (eT : stepT h.tm now (IntKind.u32.wrap (draw + (b : Int))) = T) : oneH id now draw h b = ({ h with tm := T.1 }, if T.2.1 = true then [⟨id, h.num, h.data⟩] else []) := by
  subst eT; exact if_pos hs
theorem setH_self {L : List Hel} {i : Nat} (h : i < L.length) : L.set i (L.getD i default) = L := by
  apply List.ext_getElem
  · rw [List.length_set]
  · intro k h1 h2
    rw [List.getElem_set]
    split
    · rename_i e
      subst e
      rw [List.getD_eq_getElem?_getD, List.getElem?_eq_getElem h]; rfl
    · rfl
end Go.Proofs.Ytfaibcgakcmhcaa.AX

/- Package multicast by AX2: Step, the states of the second loop. -/
namespace Go.Proofs.Ytfaibcgakcmhcaa.AX
open Go.RowKit
set_option linter.unusedVariables false
set_option linter.unusedSimpArgs false
def S2 (M0 : List Sed) (now draw : Int) (s : StI M0 now draw) : Hd := ⟨[(1, one (.int .i64 now)), (2, one (.int .u32 draw)), (9, one (.os 1 0 s.M.length)), (14, one (.os 10 0 s.Z.length)), (15, one (.int .u32 (s.b : Int))), (65, one (.int .i64 (M0.length : Int))), (66, one (.int .i64 (s.i : Int)))], (1, some (entP 2 s.M.length s.M)) :: (hepP 2 s.M ++ [(10, some (entN neC 32 s.Z))]), 11⟩
theorem u32ok (x : Int) : drawOk (IntKind.u32.wrap x) := by unfold drawOk; rw [IntKind.wrap_u32']; omega
theorem leN_oneH {c : Wc} {t : TypeId} {l : List Hel} {n : Nat} {f : Nat → Nat → CV} (h : n = l.length ∧ ∀ q, q < l.length → ∀ j, j < 11 → LeC c (f q j) (rowN neH l q j)) : LeN c ⟨t, n, 11, false, f⟩ (entN neH t l) := ⟨rfl, h.1, rfl, rfl, fun q hq j hj => h.2 q (h.1 ▸ hq) j hj⟩
theorem hel_row2 {c : Wc} {l : List Hel} {k : Nat} {t : Trk} {G : Nat → CV} (hk : k < l.length) (hG : ∀ j, j < 8 → LeC c (G j) (eTk.cell t j)) : l.length = (l.set k { l.getD k default with tm := t }).length ∧ ∀ q, q < (l.set k { l.getD k default with tm := t }).length → ∀ j, j < 11 → LeC c (updE false (rowN neH l) k (ovw false neH.sz (rowN neH l k) (0 + 2) 8 G) q j) (rowN neH (l.set k { l.getD k default with tm := t }) q j) := by
  refine ⟨(List.length_set).symm, fun q hq j hj => ?_⟩
  by_cases hqk : q = k
  · subst hqk
    have e : rowN neH (l.set q { l.getD q default with tm := t }) q j = neH.cell { l.getD q default with tm := t } j := congrArg (fun z => neH.cell z j) (by rw [List.getD_eq_getElem?_getD, List.getElem?_set, if_pos rfl, if_pos hk]; rfl)
    rw [e]
    refine selC_in (beq_refl_nat _) ?_
    rcases j with _ | j
    · exact leC_int rfl
    rcases j with _ | j
    · exact (neH.sh _ 1 (by decide)).le
    iterate 8 (rcases j with _ | j; · exact hG _ (by decide))
    rcases j with _ | j
    · exact leC_int rfl
    exact absurd hj (by omega)
  · have e : rowN neH (l.set k { l.getD k default with tm := t }) q j = rowN neH l q j := congrArg (fun z => neH.cell z j) (by simp only [List.getD_eq_getElem?_getD]; rw [List.getElem?_set, if_neg (Ne.symm hqk)])
    rw [e, updE_ne hqk]
    exact (neH.sh _ j hj).le
theorem lt8c {P : Nat → Prop} (h : P 0 ∧ P 1 ∧ P 2 ∧ P 3 ∧ P 4 ∧ P 5 ∧ P 6 ∧ P 7) : ∀ j, j < 8 → P j := by
  obtain ⟨h0, h1, h2, h3, h4, h5, h6, h7⟩ := h
  exact lt8 h0 h1 h2 h3 h4 h5 h6 h7
theorem casts_snoc {c : Wc} {t : TypeId} {Z : List Cas} {x : Cas} {g z : Nat → CV} (h : ∀ j, j < 3 → LeC c (g j) (neC.cell x j)) : LeN c ⟨t, Z.length + 1, 3, false, fun k j => selC (Nat.blt k Z.length) (rowN neC Z k j) (selC (Nat.beq (0 + (k - Z.length)) 0) (g j) (z j))⟩ (entN neC t (Z ++ [x])) := by
  refine ⟨rfl, by show _ = (Z ++ [x]).length; rw [List.length_append]; rfl, rfl, rfl, fun k hk j hj => ?_⟩
  have hk : k < Z.length + 1 := hk
  by_cases hkz : k < Z.length
  · refine selC_in (Nat.ble_eq_true_of_le hkz) ?_
    have e : rowN neC (Z ++ [x]) k j = rowN neC Z k j := congrArg (fun z => neC.cell z j) (by rw [List.getD_eq_getElem?_getD, List.getElem?_append_left hkz, ← List.getD_eq_getElem?_getD])
    show LeC c _ (rowN neC (Z ++ [x]) k j)
    rw [e]
    exact (neC.sh _ j hj).le
  · obtain rfl : k = Z.length := by omega
    refine selC_out (blt_self _) (selC_in (by rw [Nat.sub_self]; rfl) ?_)
    have e : rowN neC (Z ++ [x]) Z.length j = neC.cell x j := congrArg (fun z => neC.cell z j) (by simp [List.getD_eq_getElem?_getD])
    show LeC c _ (rowN neC (Z ++ [x]) Z.length j)
    rw [e]
    exact h j hj
theorem leN_eqZ {c : Wc} {t : TypeId} {l l' : List Cas} (h : l = l') : LeN c (entN neC t l) (entN neC t l') := by subst h; exact leN_entN
end Go.Proofs.Ytfaibcgakcmhcaa.AX

/- Package multicast by AX2: Step, the second loop, one round for each place. -/
namespace Go.Proofs.Ytfaibcgakcmhcaa.AX
open Go.RowKit
set_option linter.unusedVariables false
set_option linter.unusedSimpArgs false
set_option maxHeartbeats 8000000 in
set_option maxRecDepth 20000 in
theorem st2_0 (M0 : List Sed) (now draw : Int) (hm : ∀ s ∈ M0, SdOk s) (h8 : M0.length ≤ 8) (hd : drawOk draw) (ht : 0 ≤ now ∧ now ≤ 1099511627776) (s : StI M0 now draw) (hi : s.i = 0) (hil : s.i < M0.length) (K : Kt) :
    exec T (mkQ LMs) 1024 Try.f21.ntmps 0 (loopIn (dropC 5 (Try.f21.body.getD Code.ret))) (S2 M0 now draw s).fr (S2 M0 now draw s).H (S2 M0 now draw s).nx (seqK (fun fr H _ => Goes (S2 M0 now draw) (fun s => M0.length - s.i) 0 (M0.length - s.i) fr H) K) := by
  have hS : SdOk (M0.getD s.i default) := hm _ (getD_in hil)
  obtain ⟨s', es'⟩ : ∃ s', s.next hil hS.n = s' := ⟨_, rfl⟩
  have f1 : s'.M = s.M.set s.i { M0.getD s.i default with held := (runH (M0.getD s.i default).id now draw (M0.getD s.i default).held s.b).1 } := by rw [← es']; rfl
  have f2 : s'.Z = s.Z ++ (runH (M0.getD s.i default).id now draw (M0.getD s.i default).held s.b).2 := by rw [← es']; rfl
  have f3 : s'.b = s.b + (M0.getD s.i default).held.length := by rw [← es']; rfl
  have f4 : s'.i = s.i + 1 := by rw [← es']; rfl
  clear es'
  obtain ⟨i, M, Z, b, hn, hi0, hb, hz, h2, r1, r2⟩ := s
  dsimp only at hi hil hS f1 f2 f3 f4
  subst hi
  have hiM : 0 < M.length := by omega
  have e0 := h2 0 (Nat.le_refl _)
  rw [← e0] at hS f1 f2 f3
  have hk := hS.n
  unfold S2
  dsimp only
  clear h2 r1 r2 e0
  repeat' (first | (apply And.intro <;> intro hc <;> (first | exact Bool.noConfusion hc | (exfalso; first | exact absurd rfl hc | omega) | (simp only [decide_eq_true_eq, decide_eq_false_iff_not, Bool.not_eq_true', Bool.not_eq_false', beq_iff_eq, beq_eq_false_iff_ne, bne_iff_ne, bne_eq_false_iff_eq, Bool.true_eq_false, Bool.false_eq_true, ne_eq, not_true_eq_false] at hc <;> first | exact absurd rfl hc | (exfalso; first | exact absurd rfl hc | omega) | skip) | skip)) | (refine And.intro (by first | exact trivial | decide | omega | (dsimp only; omega) | exact fun _ _ => rfl | exact ⟨by assumption, by first | exact trivial | decide | omega | (dsimp only; omega)⟩) ?_) | (apply And.intro) | (intro s hs; skip) | (refine Exists.intro _ (And.intro ⟨rfl, rfl, rfl⟩ ?_)))
  conv => whnf
  refine loop_intro (mono_of LMs_ok) (fun s : InI (M.getD 0 default).held (M.getD 0 default).id now draw b Z => (⟨[(1, one (.int .i64 now)), (2, one (.int .u32 draw)), (9, one (.os 1 0 M.length)), (14, one (.os 10 0 s.Z.length)), (15, one (.int .u32 ((b + s.k : Nat) : Int))), (65, one (.int .i64 (M0.length : Int))), (66, one (.int .i64 ((0 : Nat) : Int))), (16, one (.int .i64 ((0 : Nat) : Int))), (74, one (.int .i64 ((M.getD 0 default).held.length : Int))), (75, one (.int .i64 (s.k : Int)))], [(1, some (entP 2 M.length M)), (2, some (entH s.H)), (3, some (entH (M.getD 1 default).held)), (4, some (entH (M.getD 2 default).held)), (5, some (entH (M.getD 3 default).held)), (6, some (entH (M.getD 4 default).held)), (7, some (entH (M.getD 5 default).held)), (8, some (entH (M.getD 6 default).held)), (9, some (entH (M.getD 7 default).held)), (10, some (entN neC 32 s.Z))], 11⟩ : Hd)) (fun s => (M.getD 0 default).held.length - s.k) (fun _ => rfl) ?_ (InI.start _ _ _ _ _ _) [] ⟨rfl, ⟨leF_int rfl, leF_int rfl, leF_c (leC_os rfl rfl), leF_c (leC_os rfl rfl), leF_int rfl, leF_int rfl, leF_int rfl, leF_int rfl, leF_int rfl, leF_int rfl, trivial⟩, ⟨⟨rfl, leN_entP (by omega) (lt8 rfl rfl rfl rfl rfl rfl rfl rfl)⟩, ⟨rfl, leN_entN⟩, ⟨rfl, leN_entN⟩, ⟨rfl, leN_entN⟩, ⟨rfl, leN_entN⟩, ⟨rfl, leN_entN⟩, ⟨rfl, leN_entN⟩, ⟨rfl, leN_entN⟩, ⟨rfl, leN_entN⟩, ⟨rfl, leN_entN⟩, trivial⟩⟩
  intro s
  by_cases hkn : s.k < (M.getD 0 default).held.length
  · have w4 : IntKind.i64.wrap ((s.k : Int) + 1) = ((s.k + 1 : Nat) : Int) := (IntWalk.i64_in _ (by omega)).trans (by omega)
    have w5 : IntKind.u32.wrap (((b + s.k : Nat) : Int) + 1) = ((b + (s.k + 1) : Nat) : Int) := (IntWalk.u32_in _ (by omega)).trans (by omega)
    have z0 : 0 + (s.k : Int).toNat = s.k := Nat.zero_add s.k
    have eh := s.h2 s.k (Nat.le_refl _)
    have hl := s.n
    have hzz := s.hz
    have bk : Nat.beq s.k s.k = true := Nat.beq_refl _
    have hx := hels_ok hS (getD_in hkn)
    rw [← eh] at hx
    have hxd := hx.d
    obtain ⟨T, eT⟩ : ∃ T, stepT (s.H.getD s.k default).tm now (IntKind.u32.wrap (draw + ((b + s.k : Nat) : Int))) = T := ⟨_, rfl⟩
    repeat' (first | (simp only [z0, w4, w5, bk, Bool.cond_true]) | (apply And.intro <;> intro hc <;> (first | exact Bool.noConfusion hc | (exfalso; first | exact absurd rfl hc | omega) | (simp only [decide_eq_true_eq, decide_eq_false_iff_not, Bool.not_eq_true', Bool.not_eq_false', beq_iff_eq, beq_eq_false_iff_ne, bne_iff_ne, bne_eq_false_iff_eq, Bool.true_eq_false, Bool.false_eq_true, ne_eq, not_true_eq_false] at hc <;> first | exact absurd rfl hc | (exfalso; first | exact absurd rfl hc | omega) | skip) | skip)) | (refine And.intro (by first | exact trivial | decide | omega | (dsimp only; omega) | exact fun _ _ => rfl | exact ⟨by assumption, by first | exact trivial | decide | omega | (dsimp only; omega)⟩) ?_) | (apply And.intro) | (intro s hs; (have q : T = s := eT.symm.trans hs.symm; clear hs; subst q)) | (refine Exists.intro _ (And.intro ⟨rfl, rfl, rfl⟩ ?_)))
    · exact hc
    · exact (u32ok _).1
    · exact (u32ok _).2
    · conv => whnf
      refine ⟨s.next hkn (s.H.set s.k { s.H.getD s.k default with tm := T.1 }) (s.Z ++ [⟨(M.getD 0 default).id, (s.H.getD s.k default).num, (s.H.getD s.k default).data⟩]) (by rw [← eh, one_yes (by assumption) eT]) (by rw [← eh, one_yes (by assumption) eT, if_pos hc]), [(10, some 59403)], by dsimp only [InI.next]; omega, rfl, ⟨leF_int rfl, leF_int rfl, leF_c (leC_os rfl rfl), leF_c (leC_os rfl (by show _ = (s.Z ++ [_]).length; rw [List.length_append]; rfl)), leF_int w5, leF_int rfl, leF_int rfl, leF_int rfl, leF_int rfl, leF_int w4, trivial⟩, ⟨⟨rfl, leN_entP (by omega) (lt8 rfl rfl rfl rfl rfl rfl rfl rfl)⟩, ⟨rfl, leN_oneH ?_⟩, ⟨rfl, leN_entN⟩, ⟨rfl, leN_entN⟩, ⟨rfl, leN_entN⟩, ⟨rfl, leN_entN⟩, ⟨rfl, leN_entN⟩, ⟨rfl, leN_entN⟩, ⟨rfl, leN_entN⟩, ⟨rfl, ?_⟩, trivial⟩⟩
      · exact hel_row2 (by rw [hl]; exact hkn) (lt8c ⟨leC_int rfl, leC_int rfl, leC_int rfl, leC_int rfl, leC_int rfl, leC_int rfl, leC_int rfl, leC_bool rfl⟩)
      · refine casts_snoc fun j hj => ?_
        rcases j with _ | _ | _ | j
        · exact leC_int rfl
        · exact leC_int rfl
        · refine leC_os_sl rfl rfl rfl rfl (Nat.le_of_eq (Nat.zero_add _)) fun q hq j hj => ?_
          show LeC _ (rowF eB (s.H.getD s.k default).data (0 + q) j) (rowF eB (s.H.getD s.k default).data q j)
          exact leC_int (congrArg (fun z => (s.H.getD s.k default).data.getD z default) (Nat.zero_add q))
        · omega
    · conv => whnf
      refine ⟨s.next hkn (s.H.set s.k { s.H.getD s.k default with tm := T.1 }) s.Z (by rw [← eh, one_yes (by assumption) eT]) (by rw [← eh, one_yes (by assumption) eT, if_neg (by rw [hc]; simp)]; exact List.append_nil _), [], by dsimp only [InI.next]; omega, rfl, ⟨leF_int rfl, leF_int rfl, leF_c (leC_os rfl rfl), leF_c (leC_os rfl rfl), leF_int w5, leF_int rfl, leF_int rfl, leF_int rfl, leF_int rfl, leF_int w4, trivial⟩, ⟨⟨rfl, leN_entP (by omega) (lt8 rfl rfl rfl rfl rfl rfl rfl rfl)⟩, ⟨rfl, leN_oneH ?_⟩, ⟨rfl, leN_entN⟩, ⟨rfl, leN_entN⟩, ⟨rfl, leN_entN⟩, ⟨rfl, leN_entN⟩, ⟨rfl, leN_entN⟩, ⟨rfl, leN_entN⟩, ⟨rfl, leN_entN⟩, ⟨rfl, leN_entN⟩, trivial⟩⟩
      exact hel_row2 (by rw [hl]; exact hkn) (lt8c ⟨leC_int rfl, leC_int rfl, leC_int rfl, leC_int rfl, leC_int rfl, leC_int rfl, leC_int rfl, leC_bool rfl⟩)
    · conv => whnf
      exact ⟨s.next hkn s.H s.Z (by rw [← eh, one_no hc]; exact setH_self (by rw [hl]; exact hkn)) (by rw [← eh, one_no hc]; exact List.append_nil _), [], by dsimp only [InI.next]; omega, rfl, ⟨leF_int rfl, leF_int rfl, leF_c (leC_os rfl rfl), leF_c (leC_os rfl rfl), leF_int w5, leF_int rfl, leF_int rfl, leF_int rfl, leF_int rfl, leF_int w4, trivial⟩, ⟨⟨rfl, leN_entP (by omega) (lt8 rfl rfl rfl rfl rfl rfl rfl rfl)⟩, ⟨rfl, leN_entN⟩, ⟨rfl, leN_entN⟩, ⟨rfl, leN_entN⟩, ⟨rfl, leN_entN⟩, ⟨rfl, leN_entN⟩, ⟨rfl, leN_entN⟩, ⟨rfl, leN_entN⟩, ⟨rfl, leN_entN⟩, ⟨rfl, leN_entN⟩, trivial⟩⟩
  · obtain ⟨l1, l2⟩ := s.last hkn
    have hkk := s.hk
    have w6 : IntKind.i64.wrap ((0 : Int) + 1) = ((0 + 1 : Nat) : Int) := rfl
    repeat' (first | (apply And.intro <;> intro hc <;> (first | exact Bool.noConfusion hc | (exfalso; first | exact absurd rfl hc | omega) | (simp only [decide_eq_true_eq, decide_eq_false_iff_not, Bool.not_eq_true', Bool.not_eq_false', beq_iff_eq, beq_eq_false_iff_ne, bne_iff_ne, bne_eq_false_iff_eq, Bool.true_eq_false, Bool.false_eq_true, ne_eq, not_true_eq_false] at hc <;> first | exact absurd rfl hc | (exfalso; first | exact absurd rfl hc | omega) | skip) | skip)) | (refine And.intro (by first | exact trivial | decide | omega | (dsimp only; omega) | exact fun _ _ => rfl | exact ⟨by assumption, by first | exact trivial | decide | omega | (dsimp only; omega)⟩) ?_) | (apply And.intro) | (intro s hs; skip) | (refine Exists.intro _ (And.intro ⟨rfl, rfl, rfl⟩ ?_)))
    conv => whnf
    refine ⟨s', [], by show M0.length - s'.i < _; rw [f4]; omega, rfl, ⟨leF_int rfl, leF_int rfl, leF_c (leC_os rfl (by rw [f1, List.length_set])), leF_c (leC_os rfl (by rw [f2, l2])), leF_int (by rw [f3]; omega), leF_int rfl, leF_int (by rw [f4]; rfl), trivial⟩, ⟨⟨rfl, ⟨rfl, by show _ = s'.M.length; rw [f1, List.length_set]; rfl, rfl, rfl, fun p hp j hj => ?_⟩⟩, ⟨rfl, leN_eqN (by rw [f1, set_at hiM]; exact l1)⟩, ⟨rfl, leN_eqN (by rw [f1]; exact congrArg Sed.held (set_ne (by decide)).symm)⟩, ⟨rfl, leN_eqN (by rw [f1]; exact congrArg Sed.held (set_ne (by decide)).symm)⟩, ⟨rfl, leN_eqN (by rw [f1]; exact congrArg Sed.held (set_ne (by decide)).symm)⟩, ⟨rfl, leN_eqN (by rw [f1]; exact congrArg Sed.held (set_ne (by decide)).symm)⟩, ⟨rfl, leN_eqN (by rw [f1]; exact congrArg Sed.held (set_ne (by decide)).symm)⟩, ⟨rfl, leN_eqN (by rw [f1]; exact congrArg Sed.held (set_ne (by decide)).symm)⟩, ⟨rfl, leN_eqN (by rw [f1]; exact congrArg Sed.held (set_ne (by decide)).symm)⟩, ⟨rfl, leN_eqZ (by rw [f2, l2])⟩, trivial⟩⟩
    have hp : p < M.length := hp
    have hj : j < 3 := hj
    show LeC _ (rowP 2 M p j) (rowP 2 s'.M p j)
    rw [f1]
    rcases (show p = 0 ∨ p = 1 ∨ p = 2 ∨ p = 3 ∨ p = 4 ∨ p = 5 ∨ p = 6 ∨ p = 7 by omega) with rfl | rfl | rfl | rfl | rfl | rfl | rfl | rfl
    all_goals first
      | exact rowP_set_ne hj (by decide) rfl rfl
      | skip
    refine rowP_set_at hiM ?_
    rcases j with _ | _ | _ | j
    · exact leC_int rfl
    · exact leC_int rfl
    · exact leC_os rfl runH_len.symm
    · omega
set_option maxHeartbeats 8000000 in
set_option maxRecDepth 20000 in
theorem st2_1 (M0 : List Sed) (now draw : Int) (hm : ∀ s ∈ M0, SdOk s) (h8 : M0.length ≤ 8) (hd : drawOk draw) (ht : 0 ≤ now ∧ now ≤ 1099511627776) (s : StI M0 now draw) (hi : s.i = 1) (hil : s.i < M0.length) (K : Kt) :
    exec T (mkQ LMs) 1024 Try.f21.ntmps 0 (loopIn (dropC 5 (Try.f21.body.getD Code.ret))) (S2 M0 now draw s).fr (S2 M0 now draw s).H (S2 M0 now draw s).nx (seqK (fun fr H _ => Goes (S2 M0 now draw) (fun s => M0.length - s.i) 0 (M0.length - s.i) fr H) K) := by
  have hS : SdOk (M0.getD s.i default) := hm _ (getD_in hil)
  obtain ⟨s', es'⟩ : ∃ s', s.next hil hS.n = s' := ⟨_, rfl⟩
  have f1 : s'.M = s.M.set s.i { M0.getD s.i default with held := (runH (M0.getD s.i default).id now draw (M0.getD s.i default).held s.b).1 } := by rw [← es']; rfl
  have f2 : s'.Z = s.Z ++ (runH (M0.getD s.i default).id now draw (M0.getD s.i default).held s.b).2 := by rw [← es']; rfl
  have f3 : s'.b = s.b + (M0.getD s.i default).held.length := by rw [← es']; rfl
  have f4 : s'.i = s.i + 1 := by rw [← es']; rfl
  clear es'
  obtain ⟨i, M, Z, b, hn, hi0, hb, hz, h2, r1, r2⟩ := s
  dsimp only at hi hil hS f1 f2 f3 f4
  subst hi
  have hiM : 1 < M.length := by omega
  have e0 := h2 1 (Nat.le_refl _)
  rw [← e0] at hS f1 f2 f3
  have hk := hS.n
  unfold S2
  dsimp only
  clear h2 r1 r2 e0
  repeat' (first | (apply And.intro <;> intro hc <;> (first | exact Bool.noConfusion hc | (exfalso; first | exact absurd rfl hc | omega) | (simp only [decide_eq_true_eq, decide_eq_false_iff_not, Bool.not_eq_true', Bool.not_eq_false', beq_iff_eq, beq_eq_false_iff_ne, bne_iff_ne, bne_eq_false_iff_eq, Bool.true_eq_false, Bool.false_eq_true, ne_eq, not_true_eq_false] at hc <;> first | exact absurd rfl hc | (exfalso; first | exact absurd rfl hc | omega) | skip) | skip)) | (refine And.intro (by first | exact trivial | decide | omega | (dsimp only; omega) | exact fun _ _ => rfl | exact ⟨by assumption, by first | exact trivial | decide | omega | (dsimp only; omega)⟩) ?_) | (apply And.intro) | (intro s hs; skip) | (refine Exists.intro _ (And.intro ⟨rfl, rfl, rfl⟩ ?_)))
  conv => whnf
  refine loop_intro (mono_of LMs_ok) (fun s : InI (M.getD 1 default).held (M.getD 1 default).id now draw b Z => (⟨[(1, one (.int .i64 now)), (2, one (.int .u32 draw)), (9, one (.os 1 0 M.length)), (14, one (.os 10 0 s.Z.length)), (15, one (.int .u32 ((b + s.k : Nat) : Int))), (65, one (.int .i64 (M0.length : Int))), (66, one (.int .i64 ((1 : Nat) : Int))), (16, one (.int .i64 ((1 : Nat) : Int))), (74, one (.int .i64 ((M.getD 1 default).held.length : Int))), (75, one (.int .i64 (s.k : Int)))], [(1, some (entP 2 M.length M)), (2, some (entH (M.getD 0 default).held)), (3, some (entH s.H)), (4, some (entH (M.getD 2 default).held)), (5, some (entH (M.getD 3 default).held)), (6, some (entH (M.getD 4 default).held)), (7, some (entH (M.getD 5 default).held)), (8, some (entH (M.getD 6 default).held)), (9, some (entH (M.getD 7 default).held)), (10, some (entN neC 32 s.Z))], 11⟩ : Hd)) (fun s => (M.getD 1 default).held.length - s.k) (fun _ => rfl) ?_ (InI.start _ _ _ _ _ _) [] ⟨rfl, ⟨leF_int rfl, leF_int rfl, leF_c (leC_os rfl rfl), leF_c (leC_os rfl rfl), leF_int rfl, leF_int rfl, leF_int rfl, leF_int rfl, leF_int rfl, leF_int rfl, trivial⟩, ⟨⟨rfl, leN_entP (by omega) (lt8 rfl rfl rfl rfl rfl rfl rfl rfl)⟩, ⟨rfl, leN_entN⟩, ⟨rfl, leN_entN⟩, ⟨rfl, leN_entN⟩, ⟨rfl, leN_entN⟩, ⟨rfl, leN_entN⟩, ⟨rfl, leN_entN⟩, ⟨rfl, leN_entN⟩, ⟨rfl, leN_entN⟩, ⟨rfl, leN_entN⟩, trivial⟩⟩
  intro s
  by_cases hkn : s.k < (M.getD 1 default).held.length
  · have w4 : IntKind.i64.wrap ((s.k : Int) + 1) = ((s.k + 1 : Nat) : Int) := (IntWalk.i64_in _ (by omega)).trans (by omega)
    have w5 : IntKind.u32.wrap (((b + s.k : Nat) : Int) + 1) = ((b + (s.k + 1) : Nat) : Int) := (IntWalk.u32_in _ (by omega)).trans (by omega)
    have z0 : 0 + (s.k : Int).toNat = s.k := Nat.zero_add s.k
    have eh := s.h2 s.k (Nat.le_refl _)
    have hl := s.n
    have hzz := s.hz
    have bk : Nat.beq s.k s.k = true := Nat.beq_refl _
    have hx := hels_ok hS (getD_in hkn)
    rw [← eh] at hx
    have hxd := hx.d
    obtain ⟨T, eT⟩ : ∃ T, stepT (s.H.getD s.k default).tm now (IntKind.u32.wrap (draw + ((b + s.k : Nat) : Int))) = T := ⟨_, rfl⟩
    repeat' (first | (simp only [z0, w4, w5, bk, Bool.cond_true]) | (apply And.intro <;> intro hc <;> (first | exact Bool.noConfusion hc | (exfalso; first | exact absurd rfl hc | omega) | (simp only [decide_eq_true_eq, decide_eq_false_iff_not, Bool.not_eq_true', Bool.not_eq_false', beq_iff_eq, beq_eq_false_iff_ne, bne_iff_ne, bne_eq_false_iff_eq, Bool.true_eq_false, Bool.false_eq_true, ne_eq, not_true_eq_false] at hc <;> first | exact absurd rfl hc | (exfalso; first | exact absurd rfl hc | omega) | skip) | skip)) | (refine And.intro (by first | exact trivial | decide | omega | (dsimp only; omega) | exact fun _ _ => rfl | exact ⟨by assumption, by first | exact trivial | decide | omega | (dsimp only; omega)⟩) ?_) | (apply And.intro) | (intro s hs; (have q : T = s := eT.symm.trans hs.symm; clear hs; subst q)) | (refine Exists.intro _ (And.intro ⟨rfl, rfl, rfl⟩ ?_)))
    · exact hc
    · exact (u32ok _).1
    · exact (u32ok _).2
    · conv => whnf
      refine ⟨s.next hkn (s.H.set s.k { s.H.getD s.k default with tm := T.1 }) (s.Z ++ [⟨(M.getD 1 default).id, (s.H.getD s.k default).num, (s.H.getD s.k default).data⟩]) (by rw [← eh, one_yes (by assumption) eT]) (by rw [← eh, one_yes (by assumption) eT, if_pos hc]), [(10, some 59403)], by dsimp only [InI.next]; omega, rfl, ⟨leF_int rfl, leF_int rfl, leF_c (leC_os rfl rfl), leF_c (leC_os rfl (by show _ = (s.Z ++ [_]).length; rw [List.length_append]; rfl)), leF_int w5, leF_int rfl, leF_int rfl, leF_int rfl, leF_int rfl, leF_int w4, trivial⟩, ⟨⟨rfl, leN_entP (by omega) (lt8 rfl rfl rfl rfl rfl rfl rfl rfl)⟩, ⟨rfl, leN_entN⟩, ⟨rfl, leN_oneH ?_⟩, ⟨rfl, leN_entN⟩, ⟨rfl, leN_entN⟩, ⟨rfl, leN_entN⟩, ⟨rfl, leN_entN⟩, ⟨rfl, leN_entN⟩, ⟨rfl, leN_entN⟩, ⟨rfl, ?_⟩, trivial⟩⟩
      · exact hel_row2 (by rw [hl]; exact hkn) (lt8c ⟨leC_int rfl, leC_int rfl, leC_int rfl, leC_int rfl, leC_int rfl, leC_int rfl, leC_int rfl, leC_bool rfl⟩)
      · refine casts_snoc fun j hj => ?_
        rcases j with _ | _ | _ | j
        · exact leC_int rfl
        · exact leC_int rfl
        · refine leC_os_sl rfl rfl rfl rfl (Nat.le_of_eq (Nat.zero_add _)) fun q hq j hj => ?_
          show LeC _ (rowF eB (s.H.getD s.k default).data (0 + q) j) (rowF eB (s.H.getD s.k default).data q j)
          exact leC_int (congrArg (fun z => (s.H.getD s.k default).data.getD z default) (Nat.zero_add q))
        · omega
    · conv => whnf
      refine ⟨s.next hkn (s.H.set s.k { s.H.getD s.k default with tm := T.1 }) s.Z (by rw [← eh, one_yes (by assumption) eT]) (by rw [← eh, one_yes (by assumption) eT, if_neg (by rw [hc]; simp)]; exact List.append_nil _), [], by dsimp only [InI.next]; omega, rfl, ⟨leF_int rfl, leF_int rfl, leF_c (leC_os rfl rfl), leF_c (leC_os rfl rfl), leF_int w5, leF_int rfl, leF_int rfl, leF_int rfl, leF_int rfl, leF_int w4, trivial⟩, ⟨⟨rfl, leN_entP (by omega) (lt8 rfl rfl rfl rfl rfl rfl rfl rfl)⟩, ⟨rfl, leN_entN⟩, ⟨rfl, leN_oneH ?_⟩, ⟨rfl, leN_entN⟩, ⟨rfl, leN_entN⟩, ⟨rfl, leN_entN⟩, ⟨rfl, leN_entN⟩, ⟨rfl, leN_entN⟩, ⟨rfl, leN_entN⟩, ⟨rfl, leN_entN⟩, trivial⟩⟩
      exact hel_row2 (by rw [hl]; exact hkn) (lt8c ⟨leC_int rfl, leC_int rfl, leC_int rfl, leC_int rfl, leC_int rfl, leC_int rfl, leC_int rfl, leC_bool rfl⟩)
    · conv => whnf
      exact ⟨s.next hkn s.H s.Z (by rw [← eh, one_no hc]; exact setH_self (by rw [hl]; exact hkn)) (by rw [← eh, one_no hc]; exact List.append_nil _), [], by dsimp only [InI.next]; omega, rfl, ⟨leF_int rfl, leF_int rfl, leF_c (leC_os rfl rfl), leF_c (leC_os rfl rfl), leF_int w5, leF_int rfl, leF_int rfl, leF_int rfl, leF_int rfl, leF_int w4, trivial⟩, ⟨⟨rfl, leN_entP (by omega) (lt8 rfl rfl rfl rfl rfl rfl rfl rfl)⟩, ⟨rfl, leN_entN⟩, ⟨rfl, leN_entN⟩, ⟨rfl, leN_entN⟩, ⟨rfl, leN_entN⟩, ⟨rfl, leN_entN⟩, ⟨rfl, leN_entN⟩, ⟨rfl, leN_entN⟩, ⟨rfl, leN_entN⟩, ⟨rfl, leN_entN⟩, trivial⟩⟩
  · obtain ⟨l1, l2⟩ := s.last hkn
    have hkk := s.hk
    have w6 : IntKind.i64.wrap ((1 : Int) + 1) = ((1 + 1 : Nat) : Int) := rfl
    repeat' (first | (apply And.intro <;> intro hc <;> (first | exact Bool.noConfusion hc | (exfalso; first | exact absurd rfl hc | omega) | (simp only [decide_eq_true_eq, decide_eq_false_iff_not, Bool.not_eq_true', Bool.not_eq_false', beq_iff_eq, beq_eq_false_iff_ne, bne_iff_ne, bne_eq_false_iff_eq, Bool.true_eq_false, Bool.false_eq_true, ne_eq, not_true_eq_false] at hc <;> first | exact absurd rfl hc | (exfalso; first | exact absurd rfl hc | omega) | skip) | skip)) | (refine And.intro (by first | exact trivial | decide | omega | (dsimp only; omega) | exact fun _ _ => rfl | exact ⟨by assumption, by first | exact trivial | decide | omega | (dsimp only; omega)⟩) ?_) | (apply And.intro) | (intro s hs; skip) | (refine Exists.intro _ (And.intro ⟨rfl, rfl, rfl⟩ ?_)))
    conv => whnf
    refine ⟨s', [], by show M0.length - s'.i < _; rw [f4]; omega, rfl, ⟨leF_int rfl, leF_int rfl, leF_c (leC_os rfl (by rw [f1, List.length_set])), leF_c (leC_os rfl (by rw [f2, l2])), leF_int (by rw [f3]; omega), leF_int rfl, leF_int (by rw [f4]; rfl), trivial⟩, ⟨⟨rfl, ⟨rfl, by show _ = s'.M.length; rw [f1, List.length_set]; rfl, rfl, rfl, fun p hp j hj => ?_⟩⟩, ⟨rfl, leN_eqN (by rw [f1]; exact congrArg Sed.held (set_ne (by decide)).symm)⟩, ⟨rfl, leN_eqN (by rw [f1, set_at hiM]; exact l1)⟩, ⟨rfl, leN_eqN (by rw [f1]; exact congrArg Sed.held (set_ne (by decide)).symm)⟩, ⟨rfl, leN_eqN (by rw [f1]; exact congrArg Sed.held (set_ne (by decide)).symm)⟩, ⟨rfl, leN_eqN (by rw [f1]; exact congrArg Sed.held (set_ne (by decide)).symm)⟩, ⟨rfl, leN_eqN (by rw [f1]; exact congrArg Sed.held (set_ne (by decide)).symm)⟩, ⟨rfl, leN_eqN (by rw [f1]; exact congrArg Sed.held (set_ne (by decide)).symm)⟩, ⟨rfl, leN_eqN (by rw [f1]; exact congrArg Sed.held (set_ne (by decide)).symm)⟩, ⟨rfl, leN_eqZ (by rw [f2, l2])⟩, trivial⟩⟩
    have hp : p < M.length := hp
    have hj : j < 3 := hj
    show LeC _ (rowP 2 M p j) (rowP 2 s'.M p j)
    rw [f1]
    rcases (show p = 0 ∨ p = 1 ∨ p = 2 ∨ p = 3 ∨ p = 4 ∨ p = 5 ∨ p = 6 ∨ p = 7 by omega) with rfl | rfl | rfl | rfl | rfl | rfl | rfl | rfl
    all_goals first
      | exact rowP_set_ne hj (by decide) rfl rfl
      | skip
    refine rowP_set_at hiM ?_
    rcases j with _ | _ | _ | j
    · exact leC_int rfl
    · exact leC_int rfl
    · exact leC_os rfl runH_len.symm
    · omega
set_option maxHeartbeats 8000000 in
set_option maxRecDepth 20000 in
theorem st2_2 (M0 : List Sed) (now draw : Int) (hm : ∀ s ∈ M0, SdOk s) (h8 : M0.length ≤ 8) (hd : drawOk draw) (ht : 0 ≤ now ∧ now ≤ 1099511627776) (s : StI M0 now draw) (hi : s.i = 2) (hil : s.i < M0.length) (K : Kt) :
    exec T (mkQ LMs) 1024 Try.f21.ntmps 0 (loopIn (dropC 5 (Try.f21.body.getD Code.ret))) (S2 M0 now draw s).fr (S2 M0 now draw s).H (S2 M0 now draw s).nx (seqK (fun fr H _ => Goes (S2 M0 now draw) (fun s => M0.length - s.i) 0 (M0.length - s.i) fr H) K) := by
  have hS : SdOk (M0.getD s.i default) := hm _ (getD_in hil)
  obtain ⟨s', es'⟩ : ∃ s', s.next hil hS.n = s' := ⟨_, rfl⟩
  have f1 : s'.M = s.M.set s.i { M0.getD s.i default with held := (runH (M0.getD s.i default).id now draw (M0.getD s.i default).held s.b).1 } := by rw [← es']; rfl
  have f2 : s'.Z = s.Z ++ (runH (M0.getD s.i default).id now draw (M0.getD s.i default).held s.b).2 := by rw [← es']; rfl
  have f3 : s'.b = s.b + (M0.getD s.i default).held.length := by rw [← es']; rfl
  have f4 : s'.i = s.i + 1 := by rw [← es']; rfl
  clear es'
  obtain ⟨i, M, Z, b, hn, hi0, hb, hz, h2, r1, r2⟩ := s
  dsimp only at hi hil hS f1 f2 f3 f4
  subst hi
  have hiM : 2 < M.length := by omega
  have e0 := h2 2 (Nat.le_refl _)
  rw [← e0] at hS f1 f2 f3
  have hk := hS.n
  unfold S2
  dsimp only
  clear h2 r1 r2 e0
  repeat' (first | (apply And.intro <;> intro hc <;> (first | exact Bool.noConfusion hc | (exfalso; first | exact absurd rfl hc | omega) | (simp only [decide_eq_true_eq, decide_eq_false_iff_not, Bool.not_eq_true', Bool.not_eq_false', beq_iff_eq, beq_eq_false_iff_ne, bne_iff_ne, bne_eq_false_iff_eq, Bool.true_eq_false, Bool.false_eq_true, ne_eq, not_true_eq_false] at hc <;> first | exact absurd rfl hc | (exfalso; first | exact absurd rfl hc | omega) | skip) | skip)) | (refine And.intro (by first | exact trivial | decide | omega | (dsimp only; omega) | exact fun _ _ => rfl | exact ⟨by assumption, by first | exact trivial | decide | omega | (dsimp only; omega)⟩) ?_) | (apply And.intro) | (intro s hs; skip) | (refine Exists.intro _ (And.intro ⟨rfl, rfl, rfl⟩ ?_)))
  conv => whnf
  refine loop_intro (mono_of LMs_ok) (fun s : InI (M.getD 2 default).held (M.getD 2 default).id now draw b Z => (⟨[(1, one (.int .i64 now)), (2, one (.int .u32 draw)), (9, one (.os 1 0 M.length)), (14, one (.os 10 0 s.Z.length)), (15, one (.int .u32 ((b + s.k : Nat) : Int))), (65, one (.int .i64 (M0.length : Int))), (66, one (.int .i64 ((2 : Nat) : Int))), (16, one (.int .i64 ((2 : Nat) : Int))), (74, one (.int .i64 ((M.getD 2 default).held.length : Int))), (75, one (.int .i64 (s.k : Int)))], [(1, some (entP 2 M.length M)), (2, some (entH (M.getD 0 default).held)), (3, some (entH (M.getD 1 default).held)), (4, some (entH s.H)), (5, some (entH (M.getD 3 default).held)), (6, some (entH (M.getD 4 default).held)), (7, some (entH (M.getD 5 default).held)), (8, some (entH (M.getD 6 default).held)), (9, some (entH (M.getD 7 default).held)), (10, some (entN neC 32 s.Z))], 11⟩ : Hd)) (fun s => (M.getD 2 default).held.length - s.k) (fun _ => rfl) ?_ (InI.start _ _ _ _ _ _) [] ⟨rfl, ⟨leF_int rfl, leF_int rfl, leF_c (leC_os rfl rfl), leF_c (leC_os rfl rfl), leF_int rfl, leF_int rfl, leF_int rfl, leF_int rfl, leF_int rfl, leF_int rfl, trivial⟩, ⟨⟨rfl, leN_entP (by omega) (lt8 rfl rfl rfl rfl rfl rfl rfl rfl)⟩, ⟨rfl, leN_entN⟩, ⟨rfl, leN_entN⟩, ⟨rfl, leN_entN⟩, ⟨rfl, leN_entN⟩, ⟨rfl, leN_entN⟩, ⟨rfl, leN_entN⟩, ⟨rfl, leN_entN⟩, ⟨rfl, leN_entN⟩, ⟨rfl, leN_entN⟩, trivial⟩⟩
  intro s
  by_cases hkn : s.k < (M.getD 2 default).held.length
  · have w4 : IntKind.i64.wrap ((s.k : Int) + 1) = ((s.k + 1 : Nat) : Int) := (IntWalk.i64_in _ (by omega)).trans (by omega)
    have w5 : IntKind.u32.wrap (((b + s.k : Nat) : Int) + 1) = ((b + (s.k + 1) : Nat) : Int) := (IntWalk.u32_in _ (by omega)).trans (by omega)
    have z0 : 0 + (s.k : Int).toNat = s.k := Nat.zero_add s.k
    have eh := s.h2 s.k (Nat.le_refl _)
    have hl := s.n
    have hzz := s.hz
    have bk : Nat.beq s.k s.k = true := Nat.beq_refl _
    have hx := hels_ok hS (getD_in hkn)
    rw [← eh] at hx
    have hxd := hx.d
    obtain ⟨T, eT⟩ : ∃ T, stepT (s.H.getD s.k default).tm now (IntKind.u32.wrap (draw + ((b + s.k : Nat) : Int))) = T := ⟨_, rfl⟩
    repeat' (first | (simp only [z0, w4, w5, bk, Bool.cond_true]) | (apply And.intro <;> intro hc <;> (first | exact Bool.noConfusion hc | (exfalso; first | exact absurd rfl hc | omega) | (simp only [decide_eq_true_eq, decide_eq_false_iff_not, Bool.not_eq_true', Bool.not_eq_false', beq_iff_eq, beq_eq_false_iff_ne, bne_iff_ne, bne_eq_false_iff_eq, Bool.true_eq_false, Bool.false_eq_true, ne_eq, not_true_eq_false] at hc <;> first | exact absurd rfl hc | (exfalso; first | exact absurd rfl hc | omega) | skip) | skip)) | (refine And.intro (by first | exact trivial | decide | omega | (dsimp only; omega) | exact fun _ _ => rfl | exact ⟨by assumption, by first | exact trivial | decide | omega | (dsimp only; omega)⟩) ?_) | (apply And.intro) | (intro s hs; (have q : T = s := eT.symm.trans hs.symm; clear hs; subst q)) | (refine Exists.intro _ (And.intro ⟨rfl, rfl, rfl⟩ ?_)))
    · exact hc
    · exact (u32ok _).1
    · exact (u32ok _).2
    · conv => whnf
      refine ⟨s.next hkn (s.H.set s.k { s.H.getD s.k default with tm := T.1 }) (s.Z ++ [⟨(M.getD 2 default).id, (s.H.getD s.k default).num, (s.H.getD s.k default).data⟩]) (by rw [← eh, one_yes (by assumption) eT]) (by rw [← eh, one_yes (by assumption) eT, if_pos hc]), [(10, some 59403)], by dsimp only [InI.next]; omega, rfl, ⟨leF_int rfl, leF_int rfl, leF_c (leC_os rfl rfl), leF_c (leC_os rfl (by show _ = (s.Z ++ [_]).length; rw [List.length_append]; rfl)), leF_int w5, leF_int rfl, leF_int rfl, leF_int rfl, leF_int rfl, leF_int w4, trivial⟩, ⟨⟨rfl, leN_entP (by omega) (lt8 rfl rfl rfl rfl rfl rfl rfl rfl)⟩, ⟨rfl, leN_entN⟩, ⟨rfl, leN_entN⟩, ⟨rfl, leN_oneH ?_⟩, ⟨rfl, leN_entN⟩, ⟨rfl, leN_entN⟩, ⟨rfl, leN_entN⟩, ⟨rfl, leN_entN⟩, ⟨rfl, leN_entN⟩, ⟨rfl, ?_⟩, trivial⟩⟩
      · exact hel_row2 (by rw [hl]; exact hkn) (lt8c ⟨leC_int rfl, leC_int rfl, leC_int rfl, leC_int rfl, leC_int rfl, leC_int rfl, leC_int rfl, leC_bool rfl⟩)
      · refine casts_snoc fun j hj => ?_
        rcases j with _ | _ | _ | j
        · exact leC_int rfl
        · exact leC_int rfl
        · refine leC_os_sl rfl rfl rfl rfl (Nat.le_of_eq (Nat.zero_add _)) fun q hq j hj => ?_
          show LeC _ (rowF eB (s.H.getD s.k default).data (0 + q) j) (rowF eB (s.H.getD s.k default).data q j)
          exact leC_int (congrArg (fun z => (s.H.getD s.k default).data.getD z default) (Nat.zero_add q))
        · omega
    · conv => whnf
      refine ⟨s.next hkn (s.H.set s.k { s.H.getD s.k default with tm := T.1 }) s.Z (by rw [← eh, one_yes (by assumption) eT]) (by rw [← eh, one_yes (by assumption) eT, if_neg (by rw [hc]; simp)]; exact List.append_nil _), [], by dsimp only [InI.next]; omega, rfl, ⟨leF_int rfl, leF_int rfl, leF_c (leC_os rfl rfl), leF_c (leC_os rfl rfl), leF_int w5, leF_int rfl, leF_int rfl, leF_int rfl, leF_int rfl, leF_int w4, trivial⟩, ⟨⟨rfl, leN_entP (by omega) (lt8 rfl rfl rfl rfl rfl rfl rfl rfl)⟩, ⟨rfl, leN_entN⟩, ⟨rfl, leN_entN⟩, ⟨rfl, leN_oneH ?_⟩, ⟨rfl, leN_entN⟩, ⟨rfl, leN_entN⟩, ⟨rfl, leN_entN⟩, ⟨rfl, leN_entN⟩, ⟨rfl, leN_entN⟩, ⟨rfl, leN_entN⟩, trivial⟩⟩
      exact hel_row2 (by rw [hl]; exact hkn) (lt8c ⟨leC_int rfl, leC_int rfl, leC_int rfl, leC_int rfl, leC_int rfl, leC_int rfl, leC_int rfl, leC_bool rfl⟩)
    · conv => whnf
      exact ⟨s.next hkn s.H s.Z (by rw [← eh, one_no hc]; exact setH_self (by rw [hl]; exact hkn)) (by rw [← eh, one_no hc]; exact List.append_nil _), [], by dsimp only [InI.next]; omega, rfl, ⟨leF_int rfl, leF_int rfl, leF_c (leC_os rfl rfl), leF_c (leC_os rfl rfl), leF_int w5, leF_int rfl, leF_int rfl, leF_int rfl, leF_int rfl, leF_int w4, trivial⟩, ⟨⟨rfl, leN_entP (by omega) (lt8 rfl rfl rfl rfl rfl rfl rfl rfl)⟩, ⟨rfl, leN_entN⟩, ⟨rfl, leN_entN⟩, ⟨rfl, leN_entN⟩, ⟨rfl, leN_entN⟩, ⟨rfl, leN_entN⟩, ⟨rfl, leN_entN⟩, ⟨rfl, leN_entN⟩, ⟨rfl, leN_entN⟩, ⟨rfl, leN_entN⟩, trivial⟩⟩
  · obtain ⟨l1, l2⟩ := s.last hkn
    have hkk := s.hk
    have w6 : IntKind.i64.wrap ((2 : Int) + 1) = ((2 + 1 : Nat) : Int) := rfl
    repeat' (first | (apply And.intro <;> intro hc <;> (first | exact Bool.noConfusion hc | (exfalso; first | exact absurd rfl hc | omega) | (simp only [decide_eq_true_eq, decide_eq_false_iff_not, Bool.not_eq_true', Bool.not_eq_false', beq_iff_eq, beq_eq_false_iff_ne, bne_iff_ne, bne_eq_false_iff_eq, Bool.true_eq_false, Bool.false_eq_true, ne_eq, not_true_eq_false] at hc <;> first | exact absurd rfl hc | (exfalso; first | exact absurd rfl hc | omega) | skip) | skip)) | (refine And.intro (by first | exact trivial | decide | omega | (dsimp only; omega) | exact fun _ _ => rfl | exact ⟨by assumption, by first | exact trivial | decide | omega | (dsimp only; omega)⟩) ?_) | (apply And.intro) | (intro s hs; skip) | (refine Exists.intro _ (And.intro ⟨rfl, rfl, rfl⟩ ?_)))
    conv => whnf
    refine ⟨s', [], by show M0.length - s'.i < _; rw [f4]; omega, rfl, ⟨leF_int rfl, leF_int rfl, leF_c (leC_os rfl (by rw [f1, List.length_set])), leF_c (leC_os rfl (by rw [f2, l2])), leF_int (by rw [f3]; omega), leF_int rfl, leF_int (by rw [f4]; rfl), trivial⟩, ⟨⟨rfl, ⟨rfl, by show _ = s'.M.length; rw [f1, List.length_set]; rfl, rfl, rfl, fun p hp j hj => ?_⟩⟩, ⟨rfl, leN_eqN (by rw [f1]; exact congrArg Sed.held (set_ne (by decide)).symm)⟩, ⟨rfl, leN_eqN (by rw [f1]; exact congrArg Sed.held (set_ne (by decide)).symm)⟩, ⟨rfl, leN_eqN (by rw [f1, set_at hiM]; exact l1)⟩, ⟨rfl, leN_eqN (by rw [f1]; exact congrArg Sed.held (set_ne (by decide)).symm)⟩, ⟨rfl, leN_eqN (by rw [f1]; exact congrArg Sed.held (set_ne (by decide)).symm)⟩, ⟨rfl, leN_eqN (by rw [f1]; exact congrArg Sed.held (set_ne (by decide)).symm)⟩, ⟨rfl, leN_eqN (by rw [f1]; exact congrArg Sed.held (set_ne (by decide)).symm)⟩, ⟨rfl, leN_eqN (by rw [f1]; exact congrArg Sed.held (set_ne (by decide)).symm)⟩, ⟨rfl, leN_eqZ (by rw [f2, l2])⟩, trivial⟩⟩
    have hp : p < M.length := hp
    have hj : j < 3 := hj
    show LeC _ (rowP 2 M p j) (rowP 2 s'.M p j)
    rw [f1]
    rcases (show p = 0 ∨ p = 1 ∨ p = 2 ∨ p = 3 ∨ p = 4 ∨ p = 5 ∨ p = 6 ∨ p = 7 by omega) with rfl | rfl | rfl | rfl | rfl | rfl | rfl | rfl
    all_goals first
      | exact rowP_set_ne hj (by decide) rfl rfl
      | skip
    refine rowP_set_at hiM ?_
    rcases j with _ | _ | _ | j
    · exact leC_int rfl
    · exact leC_int rfl
    · exact leC_os rfl runH_len.symm
    · omega
set_option maxHeartbeats 8000000 in
set_option maxRecDepth 20000 in
theorem st2_3 (M0 : List Sed) (now draw : Int) (hm : ∀ s ∈ M0, SdOk s) (h8 : M0.length ≤ 8) (hd : drawOk draw) (ht : 0 ≤ now ∧ now ≤ 1099511627776) (s : StI M0 now draw) (hi : s.i = 3) (hil : s.i < M0.length) (K : Kt) :
    exec T (mkQ LMs) 1024 Try.f21.ntmps 0 (loopIn (dropC 5 (Try.f21.body.getD Code.ret))) (S2 M0 now draw s).fr (S2 M0 now draw s).H (S2 M0 now draw s).nx (seqK (fun fr H _ => Goes (S2 M0 now draw) (fun s => M0.length - s.i) 0 (M0.length - s.i) fr H) K) := by
  have hS : SdOk (M0.getD s.i default) := hm _ (getD_in hil)
  obtain ⟨s', es'⟩ : ∃ s', s.next hil hS.n = s' := ⟨_, rfl⟩
  have f1 : s'.M = s.M.set s.i { M0.getD s.i default with held := (runH (M0.getD s.i default).id now draw (M0.getD s.i default).held s.b).1 } := by rw [← es']; rfl
  have f2 : s'.Z = s.Z ++ (runH (M0.getD s.i default).id now draw (M0.getD s.i default).held s.b).2 := by rw [← es']; rfl
  have f3 : s'.b = s.b + (M0.getD s.i default).held.length := by rw [← es']; rfl
  have f4 : s'.i = s.i + 1 := by rw [← es']; rfl
  clear es'
  obtain ⟨i, M, Z, b, hn, hi0, hb, hz, h2, r1, r2⟩ := s
  dsimp only at hi hil hS f1 f2 f3 f4
  subst hi
  have hiM : 3 < M.length := by omega
  have e0 := h2 3 (Nat.le_refl _)
  rw [← e0] at hS f1 f2 f3
  have hk := hS.n
  unfold S2
  dsimp only
  clear h2 r1 r2 e0
  repeat' (first | (apply And.intro <;> intro hc <;> (first | exact Bool.noConfusion hc | (exfalso; first | exact absurd rfl hc | omega) | (simp only [decide_eq_true_eq, decide_eq_false_iff_not, Bool.not_eq_true', Bool.not_eq_false', beq_iff_eq, beq_eq_false_iff_ne, bne_iff_ne, bne_eq_false_iff_eq, Bool.true_eq_false, Bool.false_eq_true, ne_eq, not_true_eq_false] at hc <;> first | exact absurd rfl hc | (exfalso; first | exact absurd rfl hc | omega) | skip) | skip)) | (refine And.intro (by first | exact trivial | decide | omega | (dsimp only; omega) | exact fun _ _ => rfl | exact ⟨by assumption, by first | exact trivial | decide | omega | (dsimp only; omega)⟩) ?_) | (apply And.intro) | (intro s hs; skip) | (refine Exists.intro _ (And.intro ⟨rfl, rfl, rfl⟩ ?_)))
  conv => whnf
  refine loop_intro (mono_of LMs_ok) (fun s : InI (M.getD 3 default).held (M.getD 3 default).id now draw b Z => (⟨[(1, one (.int .i64 now)), (2, one (.int .u32 draw)), (9, one (.os 1 0 M.length)), (14, one (.os 10 0 s.Z.length)), (15, one (.int .u32 ((b + s.k : Nat) : Int))), (65, one (.int .i64 (M0.length : Int))), (66, one (.int .i64 ((3 : Nat) : Int))), (16, one (.int .i64 ((3 : Nat) : Int))), (74, one (.int .i64 ((M.getD 3 default).held.length : Int))), (75, one (.int .i64 (s.k : Int)))], [(1, some (entP 2 M.length M)), (2, some (entH (M.getD 0 default).held)), (3, some (entH (M.getD 1 default).held)), (4, some (entH (M.getD 2 default).held)), (5, some (entH s.H)), (6, some (entH (M.getD 4 default).held)), (7, some (entH (M.getD 5 default).held)), (8, some (entH (M.getD 6 default).held)), (9, some (entH (M.getD 7 default).held)), (10, some (entN neC 32 s.Z))], 11⟩ : Hd)) (fun s => (M.getD 3 default).held.length - s.k) (fun _ => rfl) ?_ (InI.start _ _ _ _ _ _) [] ⟨rfl, ⟨leF_int rfl, leF_int rfl, leF_c (leC_os rfl rfl), leF_c (leC_os rfl rfl), leF_int rfl, leF_int rfl, leF_int rfl, leF_int rfl, leF_int rfl, leF_int rfl, trivial⟩, ⟨⟨rfl, leN_entP (by omega) (lt8 rfl rfl rfl rfl rfl rfl rfl rfl)⟩, ⟨rfl, leN_entN⟩, ⟨rfl, leN_entN⟩, ⟨rfl, leN_entN⟩, ⟨rfl, leN_entN⟩, ⟨rfl, leN_entN⟩, ⟨rfl, leN_entN⟩, ⟨rfl, leN_entN⟩, ⟨rfl, leN_entN⟩, ⟨rfl, leN_entN⟩, trivial⟩⟩
  intro s
  by_cases hkn : s.k < (M.getD 3 default).held.length
  · have w4 : IntKind.i64.wrap ((s.k : Int) + 1) = ((s.k + 1 : Nat) : Int) := (IntWalk.i64_in _ (by omega)).trans (by omega)
    have w5 : IntKind.u32.wrap (((b + s.k : Nat) : Int) + 1) = ((b + (s.k + 1) : Nat) : Int) := (IntWalk.u32_in _ (by omega)).trans (by omega)
    have z0 : 0 + (s.k : Int).toNat = s.k := Nat.zero_add s.k
    have eh := s.h2 s.k (Nat.le_refl _)
    have hl := s.n
    have hzz := s.hz
    have bk : Nat.beq s.k s.k = true := Nat.beq_refl _
    have hx := hels_ok hS (getD_in hkn)
    rw [← eh] at hx
    have hxd := hx.d
    obtain ⟨T, eT⟩ : ∃ T, stepT (s.H.getD s.k default).tm now (IntKind.u32.wrap (draw + ((b + s.k : Nat) : Int))) = T := ⟨_, rfl⟩
    repeat' (first | (simp only [z0, w4, w5, bk, Bool.cond_true]) | (apply And.intro <;> intro hc <;> (first | exact Bool.noConfusion hc | (exfalso; first | exact absurd rfl hc | omega) | (simp only [decide_eq_true_eq, decide_eq_false_iff_not, Bool.not_eq_true', Bool.not_eq_false', beq_iff_eq, beq_eq_false_iff_ne, bne_iff_ne, bne_eq_false_iff_eq, Bool.true_eq_false, Bool.false_eq_true, ne_eq, not_true_eq_false] at hc <;> first | exact absurd rfl hc | (exfalso; first | exact absurd rfl hc | omega) | skip) | skip)) | (refine And.intro (by first | exact trivial | decide | omega | (dsimp only; omega) | exact fun _ _ => rfl | exact ⟨by assumption, by first | exact trivial | decide | omega | (dsimp only; omega)⟩) ?_) | (apply And.intro) | (intro s hs; (have q : T = s := eT.symm.trans hs.symm; clear hs; subst q)) | (refine Exists.intro _ (And.intro ⟨rfl, rfl, rfl⟩ ?_)))
    · exact hc
    · exact (u32ok _).1
    · exact (u32ok _).2
    · conv => whnf
      refine ⟨s.next hkn (s.H.set s.k { s.H.getD s.k default with tm := T.1 }) (s.Z ++ [⟨(M.getD 3 default).id, (s.H.getD s.k default).num, (s.H.getD s.k default).data⟩]) (by rw [← eh, one_yes (by assumption) eT]) (by rw [← eh, one_yes (by assumption) eT, if_pos hc]), [(10, some 59403)], by dsimp only [InI.next]; omega, rfl, ⟨leF_int rfl, leF_int rfl, leF_c (leC_os rfl rfl), leF_c (leC_os rfl (by show _ = (s.Z ++ [_]).length; rw [List.length_append]; rfl)), leF_int w5, leF_int rfl, leF_int rfl, leF_int rfl, leF_int rfl, leF_int w4, trivial⟩, ⟨⟨rfl, leN_entP (by omega) (lt8 rfl rfl rfl rfl rfl rfl rfl rfl)⟩, ⟨rfl, leN_entN⟩, ⟨rfl, leN_entN⟩, ⟨rfl, leN_entN⟩, ⟨rfl, leN_oneH ?_⟩, ⟨rfl, leN_entN⟩, ⟨rfl, leN_entN⟩, ⟨rfl, leN_entN⟩, ⟨rfl, leN_entN⟩, ⟨rfl, ?_⟩, trivial⟩⟩
      · exact hel_row2 (by rw [hl]; exact hkn) (lt8c ⟨leC_int rfl, leC_int rfl, leC_int rfl, leC_int rfl, leC_int rfl, leC_int rfl, leC_int rfl, leC_bool rfl⟩)
      · refine casts_snoc fun j hj => ?_
        rcases j with _ | _ | _ | j
        · exact leC_int rfl
        · exact leC_int rfl
        · refine leC_os_sl rfl rfl rfl rfl (Nat.le_of_eq (Nat.zero_add _)) fun q hq j hj => ?_
          show LeC _ (rowF eB (s.H.getD s.k default).data (0 + q) j) (rowF eB (s.H.getD s.k default).data q j)
          exact leC_int (congrArg (fun z => (s.H.getD s.k default).data.getD z default) (Nat.zero_add q))
        · omega
    · conv => whnf
      refine ⟨s.next hkn (s.H.set s.k { s.H.getD s.k default with tm := T.1 }) s.Z (by rw [← eh, one_yes (by assumption) eT]) (by rw [← eh, one_yes (by assumption) eT, if_neg (by rw [hc]; simp)]; exact List.append_nil _), [], by dsimp only [InI.next]; omega, rfl, ⟨leF_int rfl, leF_int rfl, leF_c (leC_os rfl rfl), leF_c (leC_os rfl rfl), leF_int w5, leF_int rfl, leF_int rfl, leF_int rfl, leF_int rfl, leF_int w4, trivial⟩, ⟨⟨rfl, leN_entP (by omega) (lt8 rfl rfl rfl rfl rfl rfl rfl rfl)⟩, ⟨rfl, leN_entN⟩, ⟨rfl, leN_entN⟩, ⟨rfl, leN_entN⟩, ⟨rfl, leN_oneH ?_⟩, ⟨rfl, leN_entN⟩, ⟨rfl, leN_entN⟩, ⟨rfl, leN_entN⟩, ⟨rfl, leN_entN⟩, ⟨rfl, leN_entN⟩, trivial⟩⟩
      exact hel_row2 (by rw [hl]; exact hkn) (lt8c ⟨leC_int rfl, leC_int rfl, leC_int rfl, leC_int rfl, leC_int rfl, leC_int rfl, leC_int rfl, leC_bool rfl⟩)
    · conv => whnf
      exact ⟨s.next hkn s.H s.Z (by rw [← eh, one_no hc]; exact setH_self (by rw [hl]; exact hkn)) (by rw [← eh, one_no hc]; exact List.append_nil _), [], by dsimp only [InI.next]; omega, rfl, ⟨leF_int rfl, leF_int rfl, leF_c (leC_os rfl rfl), leF_c (leC_os rfl rfl), leF_int w5, leF_int rfl, leF_int rfl, leF_int rfl, leF_int rfl, leF_int w4, trivial⟩, ⟨⟨rfl, leN_entP (by omega) (lt8 rfl rfl rfl rfl rfl rfl rfl rfl)⟩, ⟨rfl, leN_entN⟩, ⟨rfl, leN_entN⟩, ⟨rfl, leN_entN⟩, ⟨rfl, leN_entN⟩, ⟨rfl, leN_entN⟩, ⟨rfl, leN_entN⟩, ⟨rfl, leN_entN⟩, ⟨rfl, leN_entN⟩, ⟨rfl, leN_entN⟩, trivial⟩⟩
  · obtain ⟨l1, l2⟩ := s.last hkn
    have hkk := s.hk
    have w6 : IntKind.i64.wrap ((3 : Int) + 1) = ((3 + 1 : Nat) : Int) := rfl
    repeat' (first | (apply And.intro <;> intro hc <;> (first | exact Bool.noConfusion hc | (exfalso; first | exact absurd rfl hc | omega) | (simp only [decide_eq_true_eq, decide_eq_false_iff_not, Bool.not_eq_true', Bool.not_eq_false', beq_iff_eq, beq_eq_false_iff_ne, bne_iff_ne, bne_eq_false_iff_eq, Bool.true_eq_false, Bool.false_eq_true, ne_eq, not_true_eq_false] at hc <;> first | exact absurd rfl hc | (exfalso; first | exact absurd rfl hc | omega) | skip) | skip)) | (refine And.intro (by first | exact trivial | decide | omega | (dsimp only; omega) | exact fun _ _ => rfl | exact ⟨by assumption, by first | exact trivial | decide | omega | (dsimp only; omega)⟩) ?_) | (apply And.intro) | (intro s hs; skip) | (refine Exists.intro _ (And.intro ⟨rfl, rfl, rfl⟩ ?_)))
    conv => whnf
    refine ⟨s', [], by show M0.length - s'.i < _; rw [f4]; omega, rfl, ⟨leF_int rfl, leF_int rfl, leF_c (leC_os rfl (by rw [f1, List.length_set])), leF_c (leC_os rfl (by rw [f2, l2])), leF_int (by rw [f3]; omega), leF_int rfl, leF_int (by rw [f4]; rfl), trivial⟩, ⟨⟨rfl, ⟨rfl, by show _ = s'.M.length; rw [f1, List.length_set]; rfl, rfl, rfl, fun p hp j hj => ?_⟩⟩, ⟨rfl, leN_eqN (by rw [f1]; exact congrArg Sed.held (set_ne (by decide)).symm)⟩, ⟨rfl, leN_eqN (by rw [f1]; exact congrArg Sed.held (set_ne (by decide)).symm)⟩, ⟨rfl, leN_eqN (by rw [f1]; exact congrArg Sed.held (set_ne (by decide)).symm)⟩, ⟨rfl, leN_eqN (by rw [f1, set_at hiM]; exact l1)⟩, ⟨rfl, leN_eqN (by rw [f1]; exact congrArg Sed.held (set_ne (by decide)).symm)⟩, ⟨rfl, leN_eqN (by rw [f1]; exact congrArg Sed.held (set_ne (by decide)).symm)⟩, ⟨rfl, leN_eqN (by rw [f1]; exact congrArg Sed.held (set_ne (by decide)).symm)⟩, ⟨rfl, leN_eqN (by rw [f1]; exact congrArg Sed.held (set_ne (by decide)).symm)⟩, ⟨rfl, leN_eqZ (by rw [f2, l2])⟩, trivial⟩⟩
    have hp : p < M.length := hp
    have hj : j < 3 := hj
    show LeC _ (rowP 2 M p j) (rowP 2 s'.M p j)
    rw [f1]
    rcases (show p = 0 ∨ p = 1 ∨ p = 2 ∨ p = 3 ∨ p = 4 ∨ p = 5 ∨ p = 6 ∨ p = 7 by omega) with rfl | rfl | rfl | rfl | rfl | rfl | rfl | rfl
    all_goals first
      | exact rowP_set_ne hj (by decide) rfl rfl
      | skip
    refine rowP_set_at hiM ?_
    rcases j with _ | _ | _ | j
    · exact leC_int rfl
    · exact leC_int rfl
    · exact leC_os rfl runH_len.symm
    · omega
set_option maxHeartbeats 8000000 in
set_option maxRecDepth 20000 in
theorem st2_4 (M0 : List Sed) (now draw : Int) (hm : ∀ s ∈ M0, SdOk s) (h8 : M0.length ≤ 8) (hd : drawOk draw) (ht : 0 ≤ now ∧ now ≤ 1099511627776) (s : StI M0 now draw) (hi : s.i = 4) (hil : s.i < M0.length) (K : Kt) :
    exec T (mkQ LMs) 1024 Try.f21.ntmps 0 (loopIn (dropC 5 (Try.f21.body.getD Code.ret))) (S2 M0 now draw s).fr (S2 M0 now draw s).H (S2 M0 now draw s).nx (seqK (fun fr H _ => Goes (S2 M0 now draw) (fun s => M0.length - s.i) 0 (M0.length - s.i) fr H) K) := by
  have hS : SdOk (M0.getD s.i default) := hm _ (getD_in hil)
  obtain ⟨s', es'⟩ : ∃ s', s.next hil hS.n = s' := ⟨_, rfl⟩
  have f1 : s'.M = s.M.set s.i { M0.getD s.i default with held := (runH (M0.getD s.i default).id now draw (M0.getD s.i default).held s.b).1 } := by rw [← es']; rfl
  have f2 : s'.Z = s.Z ++ (runH (M0.getD s.i default).id now draw (M0.getD s.i default).held s.b).2 := by rw [← es']; rfl
  have f3 : s'.b = s.b + (M0.getD s.i default).held.length := by rw [← es']; rfl
  have f4 : s'.i = s.i + 1 := by rw [← es']; rfl
  clear es'
  obtain ⟨i, M, Z, b, hn, hi0, hb, hz, h2, r1, r2⟩ := s
  dsimp only at hi hil hS f1 f2 f3 f4
  subst hi
  have hiM : 4 < M.length := by omega
  have e0 := h2 4 (Nat.le_refl _)
  rw [← e0] at hS f1 f2 f3
  have hk := hS.n
  unfold S2
  dsimp only
  clear h2 r1 r2 e0
  repeat' (first | (apply And.intro <;> intro hc <;> (first | exact Bool.noConfusion hc | (exfalso; first | exact absurd rfl hc | omega) | (simp only [decide_eq_true_eq, decide_eq_false_iff_not, Bool.not_eq_true', Bool.not_eq_false', beq_iff_eq, beq_eq_false_iff_ne, bne_iff_ne, bne_eq_false_iff_eq, Bool.true_eq_false, Bool.false_eq_true, ne_eq, not_true_eq_false] at hc <;> first | exact absurd rfl hc | (exfalso; first | exact absurd rfl hc | omega) | skip) | skip)) | (refine And.intro (by first | exact trivial | decide | omega | (dsimp only; omega) | exact fun _ _ => rfl | exact ⟨by assumption, by first | exact trivial | decide | omega | (dsimp only; omega)⟩) ?_) | (apply And.intro) | (intro s hs; skip) | (refine Exists.intro _ (And.intro ⟨rfl, rfl, rfl⟩ ?_)))
  conv => whnf
  refine loop_intro (mono_of LMs_ok) (fun s : InI (M.getD 4 default).held (M.getD 4 default).id now draw b Z => (⟨[(1, one (.int .i64 now)), (2, one (.int .u32 draw)), (9, one (.os 1 0 M.length)), (14, one (.os 10 0 s.Z.length)), (15, one (.int .u32 ((b + s.k : Nat) : Int))), (65, one (.int .i64 (M0.length : Int))), (66, one (.int .i64 ((4 : Nat) : Int))), (16, one (.int .i64 ((4 : Nat) : Int))), (74, one (.int .i64 ((M.getD 4 default).held.length : Int))), (75, one (.int .i64 (s.k : Int)))], [(1, some (entP 2 M.length M)), (2, some (entH (M.getD 0 default).held)), (3, some (entH (M.getD 1 default).held)), (4, some (entH (M.getD 2 default).held)), (5, some (entH (M.getD 3 default).held)), (6, some (entH s.H)), (7, some (entH (M.getD 5 default).held)), (8, some (entH (M.getD 6 default).held)), (9, some (entH (M.getD 7 default).held)), (10, some (entN neC 32 s.Z))], 11⟩ : Hd)) (fun s => (M.getD 4 default).held.length - s.k) (fun _ => rfl) ?_ (InI.start _ _ _ _ _ _) [] ⟨rfl, ⟨leF_int rfl, leF_int rfl, leF_c (leC_os rfl rfl), leF_c (leC_os rfl rfl), leF_int rfl, leF_int rfl, leF_int rfl, leF_int rfl, leF_int rfl, leF_int rfl, trivial⟩, ⟨⟨rfl, leN_entP (by omega) (lt8 rfl rfl rfl rfl rfl rfl rfl rfl)⟩, ⟨rfl, leN_entN⟩, ⟨rfl, leN_entN⟩, ⟨rfl, leN_entN⟩, ⟨rfl, leN_entN⟩, ⟨rfl, leN_entN⟩, ⟨rfl, leN_entN⟩, ⟨rfl, leN_entN⟩, ⟨rfl, leN_entN⟩, ⟨rfl, leN_entN⟩, trivial⟩⟩
  intro s
  by_cases hkn : s.k < (M.getD 4 default).held.length
  · have w4 : IntKind.i64.wrap ((s.k : Int) + 1) = ((s.k + 1 : Nat) : Int) := (IntWalk.i64_in _ (by omega)).trans (by omega)
    have w5 : IntKind.u32.wrap (((b + s.k : Nat) : Int) + 1) = ((b + (s.k + 1) : Nat) : Int) := (IntWalk.u32_in _ (by omega)).trans (by omega)
    have z0 : 0 + (s.k : Int).toNat = s.k := Nat.zero_add s.k
    have eh := s.h2 s.k (Nat.le_refl _)
    have hl := s.n
    have hzz := s.hz
    have bk : Nat.beq s.k s.k = true := Nat.beq_refl _
    have hx := hels_ok hS (getD_in hkn)
    rw [← eh] at hx
    have hxd := hx.d
    obtain ⟨T, eT⟩ : ∃ T, stepT (s.H.getD s.k default).tm now (IntKind.u32.wrap (draw + ((b + s.k : Nat) : Int))) = T := ⟨_, rfl⟩
    repeat' (first | (simp only [z0, w4, w5, bk, Bool.cond_true]) | (apply And.intro <;> intro hc <;> (first | exact Bool.noConfusion hc | (exfalso; first | exact absurd rfl hc | omega) | (simp only [decide_eq_true_eq, decide_eq_false_iff_not, Bool.not_eq_true', Bool.not_eq_false', beq_iff_eq, beq_eq_false_iff_ne, bne_iff_ne, bne_eq_false_iff_eq, Bool.true_eq_false, Bool.false_eq_true, ne_eq, not_true_eq_false] at hc <;> first | exact absurd rfl hc | (exfalso; first | exact absurd rfl hc | omega) | skip) | skip)) | (refine And.intro (by first | exact trivial | decide | omega | (dsimp only; omega) | exact fun _ _ => rfl | exact ⟨by assumption, by first | exact trivial | decide | omega | (dsimp only; omega)⟩) ?_) | (apply And.intro) | (intro s hs; (have q : T = s := eT.symm.trans hs.symm; clear hs; subst q)) | (refine Exists.intro _ (And.intro ⟨rfl, rfl, rfl⟩ ?_)))
    · exact hc
    · exact (u32ok _).1
    · exact (u32ok _).2
    · conv => whnf
      refine ⟨s.next hkn (s.H.set s.k { s.H.getD s.k default with tm := T.1 }) (s.Z ++ [⟨(M.getD 4 default).id, (s.H.getD s.k default).num, (s.H.getD s.k default).data⟩]) (by rw [← eh, one_yes (by assumption) eT]) (by rw [← eh, one_yes (by assumption) eT, if_pos hc]), [(10, some 59403)], by dsimp only [InI.next]; omega, rfl, ⟨leF_int rfl, leF_int rfl, leF_c (leC_os rfl rfl), leF_c (leC_os rfl (by show _ = (s.Z ++ [_]).length; rw [List.length_append]; rfl)), leF_int w5, leF_int rfl, leF_int rfl, leF_int rfl, leF_int rfl, leF_int w4, trivial⟩, ⟨⟨rfl, leN_entP (by omega) (lt8 rfl rfl rfl rfl rfl rfl rfl rfl)⟩, ⟨rfl, leN_entN⟩, ⟨rfl, leN_entN⟩, ⟨rfl, leN_entN⟩, ⟨rfl, leN_entN⟩, ⟨rfl, leN_oneH ?_⟩, ⟨rfl, leN_entN⟩, ⟨rfl, leN_entN⟩, ⟨rfl, leN_entN⟩, ⟨rfl, ?_⟩, trivial⟩⟩
      · exact hel_row2 (by rw [hl]; exact hkn) (lt8c ⟨leC_int rfl, leC_int rfl, leC_int rfl, leC_int rfl, leC_int rfl, leC_int rfl, leC_int rfl, leC_bool rfl⟩)
      · refine casts_snoc fun j hj => ?_
        rcases j with _ | _ | _ | j
        · exact leC_int rfl
        · exact leC_int rfl
        · refine leC_os_sl rfl rfl rfl rfl (Nat.le_of_eq (Nat.zero_add _)) fun q hq j hj => ?_
          show LeC _ (rowF eB (s.H.getD s.k default).data (0 + q) j) (rowF eB (s.H.getD s.k default).data q j)
          exact leC_int (congrArg (fun z => (s.H.getD s.k default).data.getD z default) (Nat.zero_add q))
        · omega
    · conv => whnf
      refine ⟨s.next hkn (s.H.set s.k { s.H.getD s.k default with tm := T.1 }) s.Z (by rw [← eh, one_yes (by assumption) eT]) (by rw [← eh, one_yes (by assumption) eT, if_neg (by rw [hc]; simp)]; exact List.append_nil _), [], by dsimp only [InI.next]; omega, rfl, ⟨leF_int rfl, leF_int rfl, leF_c (leC_os rfl rfl), leF_c (leC_os rfl rfl), leF_int w5, leF_int rfl, leF_int rfl, leF_int rfl, leF_int rfl, leF_int w4, trivial⟩, ⟨⟨rfl, leN_entP (by omega) (lt8 rfl rfl rfl rfl rfl rfl rfl rfl)⟩, ⟨rfl, leN_entN⟩, ⟨rfl, leN_entN⟩, ⟨rfl, leN_entN⟩, ⟨rfl, leN_entN⟩, ⟨rfl, leN_oneH ?_⟩, ⟨rfl, leN_entN⟩, ⟨rfl, leN_entN⟩, ⟨rfl, leN_entN⟩, ⟨rfl, leN_entN⟩, trivial⟩⟩
      exact hel_row2 (by rw [hl]; exact hkn) (lt8c ⟨leC_int rfl, leC_int rfl, leC_int rfl, leC_int rfl, leC_int rfl, leC_int rfl, leC_int rfl, leC_bool rfl⟩)
    · conv => whnf
      exact ⟨s.next hkn s.H s.Z (by rw [← eh, one_no hc]; exact setH_self (by rw [hl]; exact hkn)) (by rw [← eh, one_no hc]; exact List.append_nil _), [], by dsimp only [InI.next]; omega, rfl, ⟨leF_int rfl, leF_int rfl, leF_c (leC_os rfl rfl), leF_c (leC_os rfl rfl), leF_int w5, leF_int rfl, leF_int rfl, leF_int rfl, leF_int rfl, leF_int w4, trivial⟩, ⟨⟨rfl, leN_entP (by omega) (lt8 rfl rfl rfl rfl rfl rfl rfl rfl)⟩, ⟨rfl, leN_entN⟩, ⟨rfl, leN_entN⟩, ⟨rfl, leN_entN⟩, ⟨rfl, leN_entN⟩, ⟨rfl, leN_entN⟩, ⟨rfl, leN_entN⟩, ⟨rfl, leN_entN⟩, ⟨rfl, leN_entN⟩, ⟨rfl, leN_entN⟩, trivial⟩⟩
  · obtain ⟨l1, l2⟩ := s.last hkn
    have hkk := s.hk
    have w6 : IntKind.i64.wrap ((4 : Int) + 1) = ((4 + 1 : Nat) : Int) := rfl
    repeat' (first | (apply And.intro <;> intro hc <;> (first | exact Bool.noConfusion hc | (exfalso; first | exact absurd rfl hc | omega) | (simp only [decide_eq_true_eq, decide_eq_false_iff_not, Bool.not_eq_true', Bool.not_eq_false', beq_iff_eq, beq_eq_false_iff_ne, bne_iff_ne, bne_eq_false_iff_eq, Bool.true_eq_false, Bool.false_eq_true, ne_eq, not_true_eq_false] at hc <;> first | exact absurd rfl hc | (exfalso; first | exact absurd rfl hc | omega) | skip) | skip)) | (refine And.intro (by first | exact trivial | decide | omega | (dsimp only; omega) | exact fun _ _ => rfl | exact ⟨by assumption, by first | exact trivial | decide | omega | (dsimp only; omega)⟩) ?_) | (apply And.intro) | (intro s hs; skip) | (refine Exists.intro _ (And.intro ⟨rfl, rfl, rfl⟩ ?_)))
    conv => whnf
    refine ⟨s', [], by show M0.length - s'.i < _; rw [f4]; omega, rfl, ⟨leF_int rfl, leF_int rfl, leF_c (leC_os rfl (by rw [f1, List.length_set])), leF_c (leC_os rfl (by rw [f2, l2])), leF_int (by rw [f3]; omega), leF_int rfl, leF_int (by rw [f4]; rfl), trivial⟩, ⟨⟨rfl, ⟨rfl, by show _ = s'.M.length; rw [f1, List.length_set]; rfl, rfl, rfl, fun p hp j hj => ?_⟩⟩, ⟨rfl, leN_eqN (by rw [f1]; exact congrArg Sed.held (set_ne (by decide)).symm)⟩, ⟨rfl, leN_eqN (by rw [f1]; exact congrArg Sed.held (set_ne (by decide)).symm)⟩, ⟨rfl, leN_eqN (by rw [f1]; exact congrArg Sed.held (set_ne (by decide)).symm)⟩, ⟨rfl, leN_eqN (by rw [f1]; exact congrArg Sed.held (set_ne (by decide)).symm)⟩, ⟨rfl, leN_eqN (by rw [f1, set_at hiM]; exact l1)⟩, ⟨rfl, leN_eqN (by rw [f1]; exact congrArg Sed.held (set_ne (by decide)).symm)⟩, ⟨rfl, leN_eqN (by rw [f1]; exact congrArg Sed.held (set_ne (by decide)).symm)⟩, ⟨rfl, leN_eqN (by rw [f1]; exact congrArg Sed.held (set_ne (by decide)).symm)⟩, ⟨rfl, leN_eqZ (by rw [f2, l2])⟩, trivial⟩⟩
    have hp : p < M.length := hp
    have hj : j < 3 := hj
    show LeC _ (rowP 2 M p j) (rowP 2 s'.M p j)
    rw [f1]
    rcases (show p = 0 ∨ p = 1 ∨ p = 2 ∨ p = 3 ∨ p = 4 ∨ p = 5 ∨ p = 6 ∨ p = 7 by omega) with rfl | rfl | rfl | rfl | rfl | rfl | rfl | rfl
    all_goals first
      | exact rowP_set_ne hj (by decide) rfl rfl
      | skip
    refine rowP_set_at hiM ?_
    rcases j with _ | _ | _ | j
    · exact leC_int rfl
    · exact leC_int rfl
    · exact leC_os rfl runH_len.symm
    · omega
set_option maxHeartbeats 8000000 in
set_option maxRecDepth 20000 in
theorem st2_5 (M0 : List Sed) (now draw : Int) (hm : ∀ s ∈ M0, SdOk s) (h8 : M0.length ≤ 8) (hd : drawOk draw) (ht : 0 ≤ now ∧ now ≤ 1099511627776) (s : StI M0 now draw) (hi : s.i = 5) (hil : s.i < M0.length) (K : Kt) :
    exec T (mkQ LMs) 1024 Try.f21.ntmps 0 (loopIn (dropC 5 (Try.f21.body.getD Code.ret))) (S2 M0 now draw s).fr (S2 M0 now draw s).H (S2 M0 now draw s).nx (seqK (fun fr H _ => Goes (S2 M0 now draw) (fun s => M0.length - s.i) 0 (M0.length - s.i) fr H) K) := by
  have hS : SdOk (M0.getD s.i default) := hm _ (getD_in hil)
  obtain ⟨s', es'⟩ : ∃ s', s.next hil hS.n = s' := ⟨_, rfl⟩
  have f1 : s'.M = s.M.set s.i { M0.getD s.i default with held := (runH (M0.getD s.i default).id now draw (M0.getD s.i default).held s.b).1 } := by rw [← es']; rfl
  have f2 : s'.Z = s.Z ++ (runH (M0.getD s.i default).id now draw (M0.getD s.i default).held s.b).2 := by rw [← es']; rfl
  have f3 : s'.b = s.b + (M0.getD s.i default).held.length := by rw [← es']; rfl
  have f4 : s'.i = s.i + 1 := by rw [← es']; rfl
  clear es'
  obtain ⟨i, M, Z, b, hn, hi0, hb, hz, h2, r1, r2⟩ := s
  dsimp only at hi hil hS f1 f2 f3 f4
  subst hi
  have hiM : 5 < M.length := by omega
  have e0 := h2 5 (Nat.le_refl _)
  rw [← e0] at hS f1 f2 f3
  have hk := hS.n
  unfold S2
  dsimp only
  clear h2 r1 r2 e0
  repeat' (first | (apply And.intro <;> intro hc <;> (first | exact Bool.noConfusion hc | (exfalso; first | exact absurd rfl hc | omega) | (simp only [decide_eq_true_eq, decide_eq_false_iff_not, Bool.not_eq_true', Bool.not_eq_false', beq_iff_eq, beq_eq_false_iff_ne, bne_iff_ne, bne_eq_false_iff_eq, Bool.true_eq_false, Bool.false_eq_true, ne_eq, not_true_eq_false] at hc <;> first | exact absurd rfl hc | (exfalso; first | exact absurd rfl hc | omega) | skip) | skip)) | (refine And.intro (by first | exact trivial | decide | omega | (dsimp only; omega) | exact fun _ _ => rfl | exact ⟨by assumption, by first | exact trivial | decide | omega | (dsimp only; omega)⟩) ?_) | (apply And.intro) | (intro s hs; skip) | (refine Exists.intro _ (And.intro ⟨rfl, rfl, rfl⟩ ?_)))
  conv => whnf
  refine loop_intro (mono_of LMs_ok) (fun s : InI (M.getD 5 default).held (M.getD 5 default).id now draw b Z => (⟨[(1, one (.int .i64 now)), (2, one (.int .u32 draw)), (9, one (.os 1 0 M.length)), (14, one (.os 10 0 s.Z.length)), (15, one (.int .u32 ((b + s.k : Nat) : Int))), (65, one (.int .i64 (M0.length : Int))), (66, one (.int .i64 ((5 : Nat) : Int))), (16, one (.int .i64 ((5 : Nat) : Int))), (74, one (.int .i64 ((M.getD 5 default).held.length : Int))), (75, one (.int .i64 (s.k : Int)))], [(1, some (entP 2 M.length M)), (2, some (entH (M.getD 0 default).held)), (3, some (entH (M.getD 1 default).held)), (4, some (entH (M.getD 2 default).held)), (5, some (entH (M.getD 3 default).held)), (6, some (entH (M.getD 4 default).held)), (7, some (entH s.H)), (8, some (entH (M.getD 6 default).held)), (9, some (entH (M.getD 7 default).held)), (10, some (entN neC 32 s.Z))], 11⟩ : Hd)) (fun s => (M.getD 5 default).held.length - s.k) (fun _ => rfl) ?_ (InI.start _ _ _ _ _ _) [] ⟨rfl, ⟨leF_int rfl, leF_int rfl, leF_c (leC_os rfl rfl), leF_c (leC_os rfl rfl), leF_int rfl, leF_int rfl, leF_int rfl, leF_int rfl, leF_int rfl, leF_int rfl, trivial⟩, ⟨⟨rfl, leN_entP (by omega) (lt8 rfl rfl rfl rfl rfl rfl rfl rfl)⟩, ⟨rfl, leN_entN⟩, ⟨rfl, leN_entN⟩, ⟨rfl, leN_entN⟩, ⟨rfl, leN_entN⟩, ⟨rfl, leN_entN⟩, ⟨rfl, leN_entN⟩, ⟨rfl, leN_entN⟩, ⟨rfl, leN_entN⟩, ⟨rfl, leN_entN⟩, trivial⟩⟩
  intro s
  by_cases hkn : s.k < (M.getD 5 default).held.length
  · have w4 : IntKind.i64.wrap ((s.k : Int) + 1) = ((s.k + 1 : Nat) : Int) := (IntWalk.i64_in _ (by omega)).trans (by omega)
    have w5 : IntKind.u32.wrap (((b + s.k : Nat) : Int) + 1) = ((b + (s.k + 1) : Nat) : Int) := (IntWalk.u32_in _ (by omega)).trans (by omega)
    have z0 : 0 + (s.k : Int).toNat = s.k := Nat.zero_add s.k
    have eh := s.h2 s.k (Nat.le_refl _)
    have hl := s.n
    have hzz := s.hz
    have bk : Nat.beq s.k s.k = true := Nat.beq_refl _
    have hx := hels_ok hS (getD_in hkn)
    rw [← eh] at hx
    have hxd := hx.d
    obtain ⟨T, eT⟩ : ∃ T, stepT (s.H.getD s.k default).tm now (IntKind.u32.wrap (draw + ((b + s.k : Nat) : Int))) = T := ⟨_, rfl⟩
    repeat' (first | (simp only [z0, w4, w5, bk, Bool.cond_true]) | (apply And.intro <;> intro hc <;> (first | exact Bool.noConfusion hc | (exfalso; first | exact absurd rfl hc | omega) | (simp only [decide_eq_true_eq, decide_eq_false_iff_not, Bool.not_eq_true', Bool.not_eq_false', beq_iff_eq, beq_eq_false_iff_ne, bne_iff_ne, bne_eq_false_iff_eq, Bool.true_eq_false, Bool.false_eq_true, ne_eq, not_true_eq_false] at hc <;> first | exact absurd rfl hc | (exfalso; first | exact absurd rfl hc | omega) | skip) | skip)) | (refine And.intro (by first | exact trivial | decide | omega | (dsimp only; omega) | exact fun _ _ => rfl | exact ⟨by assumption, by first | exact trivial | decide | omega | (dsimp only; omega)⟩) ?_) | (apply And.intro) | (intro s hs; (have q : T = s := eT.symm.trans hs.symm; clear hs; subst q)) | (refine Exists.intro _ (And.intro ⟨rfl, rfl, rfl⟩ ?_)))
    · exact hc
    · exact (u32ok _).1
    · exact (u32ok _).2
    · conv => whnf
      refine ⟨s.next hkn (s.H.set s.k { s.H.getD s.k default with tm := T.1 }) (s.Z ++ [⟨(M.getD 5 default).id, (s.H.getD s.k default).num, (s.H.getD s.k default).data⟩]) (by rw [← eh, one_yes (by assumption) eT]) (by rw [← eh, one_yes (by assumption) eT, if_pos hc]), [(10, some 59403)], by dsimp only [InI.next]; omega, rfl, ⟨leF_int rfl, leF_int rfl, leF_c (leC_os rfl rfl), leF_c (leC_os rfl (by show _ = (s.Z ++ [_]).length; rw [List.length_append]; rfl)), leF_int w5, leF_int rfl, leF_int rfl, leF_int rfl, leF_int rfl, leF_int w4, trivial⟩, ⟨⟨rfl, leN_entP (by omega) (lt8 rfl rfl rfl rfl rfl rfl rfl rfl)⟩, ⟨rfl, leN_entN⟩, ⟨rfl, leN_entN⟩, ⟨rfl, leN_entN⟩, ⟨rfl, leN_entN⟩, ⟨rfl, leN_entN⟩, ⟨rfl, leN_oneH ?_⟩, ⟨rfl, leN_entN⟩, ⟨rfl, leN_entN⟩, ⟨rfl, ?_⟩, trivial⟩⟩
      · exact hel_row2 (by rw [hl]; exact hkn) (lt8c ⟨leC_int rfl, leC_int rfl, leC_int rfl, leC_int rfl, leC_int rfl, leC_int rfl, leC_int rfl, leC_bool rfl⟩)
      · refine casts_snoc fun j hj => ?_
        rcases j with _ | _ | _ | j
        · exact leC_int rfl
        · exact leC_int rfl
        · refine leC_os_sl rfl rfl rfl rfl (Nat.le_of_eq (Nat.zero_add _)) fun q hq j hj => ?_
          show LeC _ (rowF eB (s.H.getD s.k default).data (0 + q) j) (rowF eB (s.H.getD s.k default).data q j)
          exact leC_int (congrArg (fun z => (s.H.getD s.k default).data.getD z default) (Nat.zero_add q))
        · omega
    · conv => whnf
      refine ⟨s.next hkn (s.H.set s.k { s.H.getD s.k default with tm := T.1 }) s.Z (by rw [← eh, one_yes (by assumption) eT]) (by rw [← eh, one_yes (by assumption) eT, if_neg (by rw [hc]; simp)]; exact List.append_nil _), [], by dsimp only [InI.next]; omega, rfl, ⟨leF_int rfl, leF_int rfl, leF_c (leC_os rfl rfl), leF_c (leC_os rfl rfl), leF_int w5, leF_int rfl, leF_int rfl, leF_int rfl, leF_int rfl, leF_int w4, trivial⟩, ⟨⟨rfl, leN_entP (by omega) (lt8 rfl rfl rfl rfl rfl rfl rfl rfl)⟩, ⟨rfl, leN_entN⟩, ⟨rfl, leN_entN⟩, ⟨rfl, leN_entN⟩, ⟨rfl, leN_entN⟩, ⟨rfl, leN_entN⟩, ⟨rfl, leN_oneH ?_⟩, ⟨rfl, leN_entN⟩, ⟨rfl, leN_entN⟩, ⟨rfl, leN_entN⟩, trivial⟩⟩
      exact hel_row2 (by rw [hl]; exact hkn) (lt8c ⟨leC_int rfl, leC_int rfl, leC_int rfl, leC_int rfl, leC_int rfl, leC_int rfl, leC_int rfl, leC_bool rfl⟩)
    · conv => whnf
      exact ⟨s.next hkn s.H s.Z (by rw [← eh, one_no hc]; exact setH_self (by rw [hl]; exact hkn)) (by rw [← eh, one_no hc]; exact List.append_nil _), [], by dsimp only [InI.next]; omega, rfl, ⟨leF_int rfl, leF_int rfl, leF_c (leC_os rfl rfl), leF_c (leC_os rfl rfl), leF_int w5, leF_int rfl, leF_int rfl, leF_int rfl, leF_int rfl, leF_int w4, trivial⟩, ⟨⟨rfl, leN_entP (by omega) (lt8 rfl rfl rfl rfl rfl rfl rfl rfl)⟩, ⟨rfl, leN_entN⟩, ⟨rfl, leN_entN⟩, ⟨rfl, leN_entN⟩, ⟨rfl, leN_entN⟩, ⟨rfl, leN_entN⟩, ⟨rfl, leN_entN⟩, ⟨rfl, leN_entN⟩, ⟨rfl, leN_entN⟩, ⟨rfl, leN_entN⟩, trivial⟩⟩
  · obtain ⟨l1, l2⟩ := s.last hkn
    have hkk := s.hk
    have w6 : IntKind.i64.wrap ((5 : Int) + 1) = ((5 + 1 : Nat) : Int) := rfl
    repeat' (first | (apply And.intro <;> intro hc <;> (first | exact Bool.noConfusion hc | (exfalso; first | exact absurd rfl hc | omega) | (simp only [decide_eq_true_eq, decide_eq_false_iff_not, Bool.not_eq_true', Bool.not_eq_false', beq_iff_eq, beq_eq_false_iff_ne, bne_iff_ne, bne_eq_false_iff_eq, Bool.true_eq_false, Bool.false_eq_true, ne_eq, not_true_eq_false] at hc <;> first | exact absurd rfl hc | (exfalso; first | exact absurd rfl hc | omega) | skip) | skip)) | (refine And.intro (by first | exact trivial | decide | omega | (dsimp only; omega) | exact fun _ _ => rfl | exact ⟨by assumption, by first | exact trivial | decide | omega | (dsimp only; omega)⟩) ?_) | (apply And.intro) | (intro s hs; skip) | (refine Exists.intro _ (And.intro ⟨rfl, rfl, rfl⟩ ?_)))
    conv => whnf
    refine ⟨s', [], by show M0.length - s'.i < _; rw [f4]; omega, rfl, ⟨leF_int rfl, leF_int rfl, leF_c (leC_os rfl (by rw [f1, List.length_set])), leF_c (leC_os rfl (by rw [f2, l2])), leF_int (by rw [f3]; omega), leF_int rfl, leF_int (by rw [f4]; rfl), trivial⟩, ⟨⟨rfl, ⟨rfl, by show _ = s'.M.length; rw [f1, List.length_set]; rfl, rfl, rfl, fun p hp j hj => ?_⟩⟩, ⟨rfl, leN_eqN (by rw [f1]; exact congrArg Sed.held (set_ne (by decide)).symm)⟩, ⟨rfl, leN_eqN (by rw [f1]; exact congrArg Sed.held (set_ne (by decide)).symm)⟩, ⟨rfl, leN_eqN (by rw [f1]; exact congrArg Sed.held (set_ne (by decide)).symm)⟩, ⟨rfl, leN_eqN (by rw [f1]; exact congrArg Sed.held (set_ne (by decide)).symm)⟩, ⟨rfl, leN_eqN (by rw [f1]; exact congrArg Sed.held (set_ne (by decide)).symm)⟩, ⟨rfl, leN_eqN (by rw [f1, set_at hiM]; exact l1)⟩, ⟨rfl, leN_eqN (by rw [f1]; exact congrArg Sed.held (set_ne (by decide)).symm)⟩, ⟨rfl, leN_eqN (by rw [f1]; exact congrArg Sed.held (set_ne (by decide)).symm)⟩, ⟨rfl, leN_eqZ (by rw [f2, l2])⟩, trivial⟩⟩
    have hp : p < M.length := hp
    have hj : j < 3 := hj
    show LeC _ (rowP 2 M p j) (rowP 2 s'.M p j)
    rw [f1]
    rcases (show p = 0 ∨ p = 1 ∨ p = 2 ∨ p = 3 ∨ p = 4 ∨ p = 5 ∨ p = 6 ∨ p = 7 by omega) with rfl | rfl | rfl | rfl | rfl | rfl | rfl | rfl
    all_goals first
      | exact rowP_set_ne hj (by decide) rfl rfl
      | skip
    refine rowP_set_at hiM ?_
    rcases j with _ | _ | _ | j
    · exact leC_int rfl
    · exact leC_int rfl
    · exact leC_os rfl runH_len.symm
    · omega
set_option maxHeartbeats 8000000 in
set_option maxRecDepth 20000 in
theorem st2_6 (M0 : List Sed) (now draw : Int) (hm : ∀ s ∈ M0, SdOk s) (h8 : M0.length ≤ 8) (hd : drawOk draw) (ht : 0 ≤ now ∧ now ≤ 1099511627776) (s : StI M0 now draw) (hi : s.i = 6) (hil : s.i < M0.length) (K : Kt) :
    exec T (mkQ LMs) 1024 Try.f21.ntmps 0 (loopIn (dropC 5 (Try.f21.body.getD Code.ret))) (S2 M0 now draw s).fr (S2 M0 now draw s).H (S2 M0 now draw s).nx (seqK (fun fr H _ => Goes (S2 M0 now draw) (fun s => M0.length - s.i) 0 (M0.length - s.i) fr H) K) := by
  have hS : SdOk (M0.getD s.i default) := hm _ (getD_in hil)
  obtain ⟨s', es'⟩ : ∃ s', s.next hil hS.n = s' := ⟨_, rfl⟩
  have f1 : s'.M = s.M.set s.i { M0.getD s.i default with held := (runH (M0.getD s.i default).id now draw (M0.getD s.i default).held s.b).1 } := by rw [← es']; rfl
  have f2 : s'.Z = s.Z ++ (runH (M0.getD s.i default).id now draw (M0.getD s.i default).held s.b).2 := by rw [← es']; rfl
  have f3 : s'.b = s.b + (M0.getD s.i default).held.length := by rw [← es']; rfl
  have f4 : s'.i = s.i + 1 := by rw [← es']; rfl
  clear es'
  obtain ⟨i, M, Z, b, hn, hi0, hb, hz, h2, r1, r2⟩ := s
  dsimp only at hi hil hS f1 f2 f3 f4
  subst hi
  have hiM : 6 < M.length := by omega
  have e0 := h2 6 (Nat.le_refl _)
  rw [← e0] at hS f1 f2 f3
  have hk := hS.n
  unfold S2
  dsimp only
  clear h2 r1 r2 e0
  repeat' (first | (apply And.intro <;> intro hc <;> (first | exact Bool.noConfusion hc | (exfalso; first | exact absurd rfl hc | omega) | (simp only [decide_eq_true_eq, decide_eq_false_iff_not, Bool.not_eq_true', Bool.not_eq_false', beq_iff_eq, beq_eq_false_iff_ne, bne_iff_ne, bne_eq_false_iff_eq, Bool.true_eq_false, Bool.false_eq_true, ne_eq, not_true_eq_false] at hc <;> first | exact absurd rfl hc | (exfalso; first | exact absurd rfl hc | omega) | skip) | skip)) | (refine And.intro (by first | exact trivial | decide | omega | (dsimp only; omega) | exact fun _ _ => rfl | exact ⟨by assumption, by first | exact trivial | decide | omega | (dsimp only; omega)⟩) ?_) | (apply And.intro) | (intro s hs; skip) | (refine Exists.intro _ (And.intro ⟨rfl, rfl, rfl⟩ ?_)))
  conv => whnf
  refine loop_intro (mono_of LMs_ok) (fun s : InI (M.getD 6 default).held (M.getD 6 default).id now draw b Z => (⟨[(1, one (.int .i64 now)), (2, one (.int .u32 draw)), (9, one (.os 1 0 M.length)), (14, one (.os 10 0 s.Z.length)), (15, one (.int .u32 ((b + s.k : Nat) : Int))), (65, one (.int .i64 (M0.length : Int))), (66, one (.int .i64 ((6 : Nat) : Int))), (16, one (.int .i64 ((6 : Nat) : Int))), (74, one (.int .i64 ((M.getD 6 default).held.length : Int))), (75, one (.int .i64 (s.k : Int)))], [(1, some (entP 2 M.length M)), (2, some (entH (M.getD 0 default).held)), (3, some (entH (M.getD 1 default).held)), (4, some (entH (M.getD 2 default).held)), (5, some (entH (M.getD 3 default).held)), (6, some (entH (M.getD 4 default).held)), (7, some (entH (M.getD 5 default).held)), (8, some (entH s.H)), (9, some (entH (M.getD 7 default).held)), (10, some (entN neC 32 s.Z))], 11⟩ : Hd)) (fun s => (M.getD 6 default).held.length - s.k) (fun _ => rfl) ?_ (InI.start _ _ _ _ _ _) [] ⟨rfl, ⟨leF_int rfl, leF_int rfl, leF_c (leC_os rfl rfl), leF_c (leC_os rfl rfl), leF_int rfl, leF_int rfl, leF_int rfl, leF_int rfl, leF_int rfl, leF_int rfl, trivial⟩, ⟨⟨rfl, leN_entP (by omega) (lt8 rfl rfl rfl rfl rfl rfl rfl rfl)⟩, ⟨rfl, leN_entN⟩, ⟨rfl, leN_entN⟩, ⟨rfl, leN_entN⟩, ⟨rfl, leN_entN⟩, ⟨rfl, leN_entN⟩, ⟨rfl, leN_entN⟩, ⟨rfl, leN_entN⟩, ⟨rfl, leN_entN⟩, ⟨rfl, leN_entN⟩, trivial⟩⟩
  intro s
  by_cases hkn : s.k < (M.getD 6 default).held.length
  · have w4 : IntKind.i64.wrap ((s.k : Int) + 1) = ((s.k + 1 : Nat) : Int) := (IntWalk.i64_in _ (by omega)).trans (by omega)
    have w5 : IntKind.u32.wrap (((b + s.k : Nat) : Int) + 1) = ((b + (s.k + 1) : Nat) : Int) := (IntWalk.u32_in _ (by omega)).trans (by omega)
    have z0 : 0 + (s.k : Int).toNat = s.k := Nat.zero_add s.k
    have eh := s.h2 s.k (Nat.le_refl _)
    have hl := s.n
    have hzz := s.hz
    have bk : Nat.beq s.k s.k = true := Nat.beq_refl _
    have hx := hels_ok hS (getD_in hkn)
    rw [← eh] at hx
    have hxd := hx.d
    obtain ⟨T, eT⟩ : ∃ T, stepT (s.H.getD s.k default).tm now (IntKind.u32.wrap (draw + ((b + s.k : Nat) : Int))) = T := ⟨_, rfl⟩
    repeat' (first | (simp only [z0, w4, w5, bk, Bool.cond_true]) | (apply And.intro <;> intro hc <;> (first | exact Bool.noConfusion hc | (exfalso; first | exact absurd rfl hc | omega) | (simp only [decide_eq_true_eq, decide_eq_false_iff_not, Bool.not_eq_true', Bool.not_eq_false', beq_iff_eq, beq_eq_false_iff_ne, bne_iff_ne, bne_eq_false_iff_eq, Bool.true_eq_false, Bool.false_eq_true, ne_eq, not_true_eq_false] at hc <;> first | exact absurd rfl hc | (exfalso; first | exact absurd rfl hc | omega) | skip) | skip)) | (refine And.intro (by first | exact trivial | decide | omega | (dsimp only; omega) | exact fun _ _ => rfl | exact ⟨by assumption, by first | exact trivial | decide | omega | (dsimp only; omega)⟩) ?_) | (apply And.intro) | (intro s hs; (have q : T = s := eT.symm.trans hs.symm; clear hs; subst q)) | (refine Exists.intro _ (And.intro ⟨rfl, rfl, rfl⟩ ?_)))
    · exact hc
    · exact (u32ok _).1
    · exact (u32ok _).2
    · conv => whnf
      refine ⟨s.next hkn (s.H.set s.k { s.H.getD s.k default with tm := T.1 }) (s.Z ++ [⟨(M.getD 6 default).id, (s.H.getD s.k default).num, (s.H.getD s.k default).data⟩]) (by rw [← eh, one_yes (by assumption) eT]) (by rw [← eh, one_yes (by assumption) eT, if_pos hc]), [(10, some 59403)], by dsimp only [InI.next]; omega, rfl, ⟨leF_int rfl, leF_int rfl, leF_c (leC_os rfl rfl), leF_c (leC_os rfl (by show _ = (s.Z ++ [_]).length; rw [List.length_append]; rfl)), leF_int w5, leF_int rfl, leF_int rfl, leF_int rfl, leF_int rfl, leF_int w4, trivial⟩, ⟨⟨rfl, leN_entP (by omega) (lt8 rfl rfl rfl rfl rfl rfl rfl rfl)⟩, ⟨rfl, leN_entN⟩, ⟨rfl, leN_entN⟩, ⟨rfl, leN_entN⟩, ⟨rfl, leN_entN⟩, ⟨rfl, leN_entN⟩, ⟨rfl, leN_entN⟩, ⟨rfl, leN_oneH ?_⟩, ⟨rfl, leN_entN⟩, ⟨rfl, ?_⟩, trivial⟩⟩
      · exact hel_row2 (by rw [hl]; exact hkn) (lt8c ⟨leC_int rfl, leC_int rfl, leC_int rfl, leC_int rfl, leC_int rfl, leC_int rfl, leC_int rfl, leC_bool rfl⟩)
      · refine casts_snoc fun j hj => ?_
        rcases j with _ | _ | _ | j
        · exact leC_int rfl
        · exact leC_int rfl
        · refine leC_os_sl rfl rfl rfl rfl (Nat.le_of_eq (Nat.zero_add _)) fun q hq j hj => ?_
          show LeC _ (rowF eB (s.H.getD s.k default).data (0 + q) j) (rowF eB (s.H.getD s.k default).data q j)
          exact leC_int (congrArg (fun z => (s.H.getD s.k default).data.getD z default) (Nat.zero_add q))
        · omega
    · conv => whnf
      refine ⟨s.next hkn (s.H.set s.k { s.H.getD s.k default with tm := T.1 }) s.Z (by rw [← eh, one_yes (by assumption) eT]) (by rw [← eh, one_yes (by assumption) eT, if_neg (by rw [hc]; simp)]; exact List.append_nil _), [], by dsimp only [InI.next]; omega, rfl, ⟨leF_int rfl, leF_int rfl, leF_c (leC_os rfl rfl), leF_c (leC_os rfl rfl), leF_int w5, leF_int rfl, leF_int rfl, leF_int rfl, leF_int rfl, leF_int w4, trivial⟩, ⟨⟨rfl, leN_entP (by omega) (lt8 rfl rfl rfl rfl rfl rfl rfl rfl)⟩, ⟨rfl, leN_entN⟩, ⟨rfl, leN_entN⟩, ⟨rfl, leN_entN⟩, ⟨rfl, leN_entN⟩, ⟨rfl, leN_entN⟩, ⟨rfl, leN_entN⟩, ⟨rfl, leN_oneH ?_⟩, ⟨rfl, leN_entN⟩, ⟨rfl, leN_entN⟩, trivial⟩⟩
      exact hel_row2 (by rw [hl]; exact hkn) (lt8c ⟨leC_int rfl, leC_int rfl, leC_int rfl, leC_int rfl, leC_int rfl, leC_int rfl, leC_int rfl, leC_bool rfl⟩)
    · conv => whnf
      exact ⟨s.next hkn s.H s.Z (by rw [← eh, one_no hc]; exact setH_self (by rw [hl]; exact hkn)) (by rw [← eh, one_no hc]; exact List.append_nil _), [], by dsimp only [InI.next]; omega, rfl, ⟨leF_int rfl, leF_int rfl, leF_c (leC_os rfl rfl), leF_c (leC_os rfl rfl), leF_int w5, leF_int rfl, leF_int rfl, leF_int rfl, leF_int rfl, leF_int w4, trivial⟩, ⟨⟨rfl, leN_entP (by omega) (lt8 rfl rfl rfl rfl rfl rfl rfl rfl)⟩, ⟨rfl, leN_entN⟩, ⟨rfl, leN_entN⟩, ⟨rfl, leN_entN⟩, ⟨rfl, leN_entN⟩, ⟨rfl, leN_entN⟩, ⟨rfl, leN_entN⟩, ⟨rfl, leN_entN⟩, ⟨rfl, leN_entN⟩, ⟨rfl, leN_entN⟩, trivial⟩⟩
  · obtain ⟨l1, l2⟩ := s.last hkn
    have hkk := s.hk
    have w6 : IntKind.i64.wrap ((6 : Int) + 1) = ((6 + 1 : Nat) : Int) := rfl
    repeat' (first | (apply And.intro <;> intro hc <;> (first | exact Bool.noConfusion hc | (exfalso; first | exact absurd rfl hc | omega) | (simp only [decide_eq_true_eq, decide_eq_false_iff_not, Bool.not_eq_true', Bool.not_eq_false', beq_iff_eq, beq_eq_false_iff_ne, bne_iff_ne, bne_eq_false_iff_eq, Bool.true_eq_false, Bool.false_eq_true, ne_eq, not_true_eq_false] at hc <;> first | exact absurd rfl hc | (exfalso; first | exact absurd rfl hc | omega) | skip) | skip)) | (refine And.intro (by first | exact trivial | decide | omega | (dsimp only; omega) | exact fun _ _ => rfl | exact ⟨by assumption, by first | exact trivial | decide | omega | (dsimp only; omega)⟩) ?_) | (apply And.intro) | (intro s hs; skip) | (refine Exists.intro _ (And.intro ⟨rfl, rfl, rfl⟩ ?_)))
    conv => whnf
    refine ⟨s', [], by show M0.length - s'.i < _; rw [f4]; omega, rfl, ⟨leF_int rfl, leF_int rfl, leF_c (leC_os rfl (by rw [f1, List.length_set])), leF_c (leC_os rfl (by rw [f2, l2])), leF_int (by rw [f3]; omega), leF_int rfl, leF_int (by rw [f4]; rfl), trivial⟩, ⟨⟨rfl, ⟨rfl, by show _ = s'.M.length; rw [f1, List.length_set]; rfl, rfl, rfl, fun p hp j hj => ?_⟩⟩, ⟨rfl, leN_eqN (by rw [f1]; exact congrArg Sed.held (set_ne (by decide)).symm)⟩, ⟨rfl, leN_eqN (by rw [f1]; exact congrArg Sed.held (set_ne (by decide)).symm)⟩, ⟨rfl, leN_eqN (by rw [f1]; exact congrArg Sed.held (set_ne (by decide)).symm)⟩, ⟨rfl, leN_eqN (by rw [f1]; exact congrArg Sed.held (set_ne (by decide)).symm)⟩, ⟨rfl, leN_eqN (by rw [f1]; exact congrArg Sed.held (set_ne (by decide)).symm)⟩, ⟨rfl, leN_eqN (by rw [f1]; exact congrArg Sed.held (set_ne (by decide)).symm)⟩, ⟨rfl, leN_eqN (by rw [f1, set_at hiM]; exact l1)⟩, ⟨rfl, leN_eqN (by rw [f1]; exact congrArg Sed.held (set_ne (by decide)).symm)⟩, ⟨rfl, leN_eqZ (by rw [f2, l2])⟩, trivial⟩⟩
    have hp : p < M.length := hp
    have hj : j < 3 := hj
    show LeC _ (rowP 2 M p j) (rowP 2 s'.M p j)
    rw [f1]
    rcases (show p = 0 ∨ p = 1 ∨ p = 2 ∨ p = 3 ∨ p = 4 ∨ p = 5 ∨ p = 6 ∨ p = 7 by omega) with rfl | rfl | rfl | rfl | rfl | rfl | rfl | rfl
    all_goals first
      | exact rowP_set_ne hj (by decide) rfl rfl
      | skip
    refine rowP_set_at hiM ?_
    rcases j with _ | _ | _ | j
    · exact leC_int rfl
    · exact leC_int rfl
    · exact leC_os rfl runH_len.symm
    · omega
set_option maxHeartbeats 8000000 in
set_option maxRecDepth 20000 in
theorem st2_7 (M0 : List Sed) (now draw : Int) (hm : ∀ s ∈ M0, SdOk s) (h8 : M0.length ≤ 8) (hd : drawOk draw) (ht : 0 ≤ now ∧ now ≤ 1099511627776) (s : StI M0 now draw) (hi : s.i = 7) (hil : s.i < M0.length) (K : Kt) :
    exec T (mkQ LMs) 1024 Try.f21.ntmps 0 (loopIn (dropC 5 (Try.f21.body.getD Code.ret))) (S2 M0 now draw s).fr (S2 M0 now draw s).H (S2 M0 now draw s).nx (seqK (fun fr H _ => Goes (S2 M0 now draw) (fun s => M0.length - s.i) 0 (M0.length - s.i) fr H) K) := by
  have hS : SdOk (M0.getD s.i default) := hm _ (getD_in hil)
  obtain ⟨s', es'⟩ : ∃ s', s.next hil hS.n = s' := ⟨_, rfl⟩
  have f1 : s'.M = s.M.set s.i { M0.getD s.i default with held := (runH (M0.getD s.i default).id now draw (M0.getD s.i default).held s.b).1 } := by rw [← es']; rfl
  have f2 : s'.Z = s.Z ++ (runH (M0.getD s.i default).id now draw (M0.getD s.i default).held s.b).2 := by rw [← es']; rfl
  have f3 : s'.b = s.b + (M0.getD s.i default).held.length := by rw [← es']; rfl
  have f4 : s'.i = s.i + 1 := by rw [← es']; rfl
  clear es'
  obtain ⟨i, M, Z, b, hn, hi0, hb, hz, h2, r1, r2⟩ := s
  dsimp only at hi hil hS f1 f2 f3 f4
  subst hi
  have hiM : 7 < M.length := by omega
  have e0 := h2 7 (Nat.le_refl _)
  rw [← e0] at hS f1 f2 f3
  have hk := hS.n
  unfold S2
  dsimp only
  clear h2 r1 r2 e0
  repeat' (first | (apply And.intro <;> intro hc <;> (first | exact Bool.noConfusion hc | (exfalso; first | exact absurd rfl hc | omega) | (simp only [decide_eq_true_eq, decide_eq_false_iff_not, Bool.not_eq_true', Bool.not_eq_false', beq_iff_eq, beq_eq_false_iff_ne, bne_iff_ne, bne_eq_false_iff_eq, Bool.true_eq_false, Bool.false_eq_true, ne_eq, not_true_eq_false] at hc <;> first | exact absurd rfl hc | (exfalso; first | exact absurd rfl hc | omega) | skip) | skip)) | (refine And.intro (by first | exact trivial | decide | omega | (dsimp only; omega) | exact fun _ _ => rfl | exact ⟨by assumption, by first | exact trivial | decide | omega | (dsimp only; omega)⟩) ?_) | (apply And.intro) | (intro s hs; skip) | (refine Exists.intro _ (And.intro ⟨rfl, rfl, rfl⟩ ?_)))
  conv => whnf
  refine loop_intro (mono_of LMs_ok) (fun s : InI (M.getD 7 default).held (M.getD 7 default).id now draw b Z => (⟨[(1, one (.int .i64 now)), (2, one (.int .u32 draw)), (9, one (.os 1 0 M.length)), (14, one (.os 10 0 s.Z.length)), (15, one (.int .u32 ((b + s.k : Nat) : Int))), (65, one (.int .i64 (M0.length : Int))), (66, one (.int .i64 ((7 : Nat) : Int))), (16, one (.int .i64 ((7 : Nat) : Int))), (74, one (.int .i64 ((M.getD 7 default).held.length : Int))), (75, one (.int .i64 (s.k : Int)))], [(1, some (entP 2 M.length M)), (2, some (entH (M.getD 0 default).held)), (3, some (entH (M.getD 1 default).held)), (4, some (entH (M.getD 2 default).held)), (5, some (entH (M.getD 3 default).held)), (6, some (entH (M.getD 4 default).held)), (7, some (entH (M.getD 5 default).held)), (8, some (entH (M.getD 6 default).held)), (9, some (entH s.H)), (10, some (entN neC 32 s.Z))], 11⟩ : Hd)) (fun s => (M.getD 7 default).held.length - s.k) (fun _ => rfl) ?_ (InI.start _ _ _ _ _ _) [] ⟨rfl, ⟨leF_int rfl, leF_int rfl, leF_c (leC_os rfl rfl), leF_c (leC_os rfl rfl), leF_int rfl, leF_int rfl, leF_int rfl, leF_int rfl, leF_int rfl, leF_int rfl, trivial⟩, ⟨⟨rfl, leN_entP (by omega) (lt8 rfl rfl rfl rfl rfl rfl rfl rfl)⟩, ⟨rfl, leN_entN⟩, ⟨rfl, leN_entN⟩, ⟨rfl, leN_entN⟩, ⟨rfl, leN_entN⟩, ⟨rfl, leN_entN⟩, ⟨rfl, leN_entN⟩, ⟨rfl, leN_entN⟩, ⟨rfl, leN_entN⟩, ⟨rfl, leN_entN⟩, trivial⟩⟩
  intro s
  by_cases hkn : s.k < (M.getD 7 default).held.length
  · have w4 : IntKind.i64.wrap ((s.k : Int) + 1) = ((s.k + 1 : Nat) : Int) := (IntWalk.i64_in _ (by omega)).trans (by omega)
    have w5 : IntKind.u32.wrap (((b + s.k : Nat) : Int) + 1) = ((b + (s.k + 1) : Nat) : Int) := (IntWalk.u32_in _ (by omega)).trans (by omega)
    have z0 : 0 + (s.k : Int).toNat = s.k := Nat.zero_add s.k
    have eh := s.h2 s.k (Nat.le_refl _)
    have hl := s.n
    have hzz := s.hz
    have bk : Nat.beq s.k s.k = true := Nat.beq_refl _
    have hx := hels_ok hS (getD_in hkn)
    rw [← eh] at hx
    have hxd := hx.d
    obtain ⟨T, eT⟩ : ∃ T, stepT (s.H.getD s.k default).tm now (IntKind.u32.wrap (draw + ((b + s.k : Nat) : Int))) = T := ⟨_, rfl⟩
    repeat' (first | (simp only [z0, w4, w5, bk, Bool.cond_true]) | (apply And.intro <;> intro hc <;> (first | exact Bool.noConfusion hc | (exfalso; first | exact absurd rfl hc | omega) | (simp only [decide_eq_true_eq, decide_eq_false_iff_not, Bool.not_eq_true', Bool.not_eq_false', beq_iff_eq, beq_eq_false_iff_ne, bne_iff_ne, bne_eq_false_iff_eq, Bool.true_eq_false, Bool.false_eq_true, ne_eq, not_true_eq_false] at hc <;> first | exact absurd rfl hc | (exfalso; first | exact absurd rfl hc | omega) | skip) | skip)) | (refine And.intro (by first | exact trivial | decide | omega | (dsimp only; omega) | exact fun _ _ => rfl | exact ⟨by assumption, by first | exact trivial | decide | omega | (dsimp only; omega)⟩) ?_) | (apply And.intro) | (intro s hs; (have q : T = s := eT.symm.trans hs.symm; clear hs; subst q)) | (refine Exists.intro _ (And.intro ⟨rfl, rfl, rfl⟩ ?_)))
    · exact hc
    · exact (u32ok _).1
    · exact (u32ok _).2
    · conv => whnf
      refine ⟨s.next hkn (s.H.set s.k { s.H.getD s.k default with tm := T.1 }) (s.Z ++ [⟨(M.getD 7 default).id, (s.H.getD s.k default).num, (s.H.getD s.k default).data⟩]) (by rw [← eh, one_yes (by assumption) eT]) (by rw [← eh, one_yes (by assumption) eT, if_pos hc]), [(10, some 59403)], by dsimp only [InI.next]; omega, rfl, ⟨leF_int rfl, leF_int rfl, leF_c (leC_os rfl rfl), leF_c (leC_os rfl (by show _ = (s.Z ++ [_]).length; rw [List.length_append]; rfl)), leF_int w5, leF_int rfl, leF_int rfl, leF_int rfl, leF_int rfl, leF_int w4, trivial⟩, ⟨⟨rfl, leN_entP (by omega) (lt8 rfl rfl rfl rfl rfl rfl rfl rfl)⟩, ⟨rfl, leN_entN⟩, ⟨rfl, leN_entN⟩, ⟨rfl, leN_entN⟩, ⟨rfl, leN_entN⟩, ⟨rfl, leN_entN⟩, ⟨rfl, leN_entN⟩, ⟨rfl, leN_entN⟩, ⟨rfl, leN_oneH ?_⟩, ⟨rfl, ?_⟩, trivial⟩⟩
      · exact hel_row2 (by rw [hl]; exact hkn) (lt8c ⟨leC_int rfl, leC_int rfl, leC_int rfl, leC_int rfl, leC_int rfl, leC_int rfl, leC_int rfl, leC_bool rfl⟩)
      · refine casts_snoc fun j hj => ?_
        rcases j with _ | _ | _ | j
        · exact leC_int rfl
        · exact leC_int rfl
        · refine leC_os_sl rfl rfl rfl rfl (Nat.le_of_eq (Nat.zero_add _)) fun q hq j hj => ?_
          show LeC _ (rowF eB (s.H.getD s.k default).data (0 + q) j) (rowF eB (s.H.getD s.k default).data q j)
          exact leC_int (congrArg (fun z => (s.H.getD s.k default).data.getD z default) (Nat.zero_add q))
        · omega
    · conv => whnf
      refine ⟨s.next hkn (s.H.set s.k { s.H.getD s.k default with tm := T.1 }) s.Z (by rw [← eh, one_yes (by assumption) eT]) (by rw [← eh, one_yes (by assumption) eT, if_neg (by rw [hc]; simp)]; exact List.append_nil _), [], by dsimp only [InI.next]; omega, rfl, ⟨leF_int rfl, leF_int rfl, leF_c (leC_os rfl rfl), leF_c (leC_os rfl rfl), leF_int w5, leF_int rfl, leF_int rfl, leF_int rfl, leF_int rfl, leF_int w4, trivial⟩, ⟨⟨rfl, leN_entP (by omega) (lt8 rfl rfl rfl rfl rfl rfl rfl rfl)⟩, ⟨rfl, leN_entN⟩, ⟨rfl, leN_entN⟩, ⟨rfl, leN_entN⟩, ⟨rfl, leN_entN⟩, ⟨rfl, leN_entN⟩, ⟨rfl, leN_entN⟩, ⟨rfl, leN_entN⟩, ⟨rfl, leN_oneH ?_⟩, ⟨rfl, leN_entN⟩, trivial⟩⟩
      exact hel_row2 (by rw [hl]; exact hkn) (lt8c ⟨leC_int rfl, leC_int rfl, leC_int rfl, leC_int rfl, leC_int rfl, leC_int rfl, leC_int rfl, leC_bool rfl⟩)
    · conv => whnf
      exact ⟨s.next hkn s.H s.Z (by rw [← eh, one_no hc]; exact setH_self (by rw [hl]; exact hkn)) (by rw [← eh, one_no hc]; exact List.append_nil _), [], by dsimp only [InI.next]; omega, rfl, ⟨leF_int rfl, leF_int rfl, leF_c (leC_os rfl rfl), leF_c (leC_os rfl rfl), leF_int w5, leF_int rfl, leF_int rfl, leF_int rfl, leF_int rfl, leF_int w4, trivial⟩, ⟨⟨rfl, leN_entP (by omega) (lt8 rfl rfl rfl rfl rfl rfl rfl rfl)⟩, ⟨rfl, leN_entN⟩, ⟨rfl, leN_entN⟩, ⟨rfl, leN_entN⟩, ⟨rfl, leN_entN⟩, ⟨rfl, leN_entN⟩, ⟨rfl, leN_entN⟩, ⟨rfl, leN_entN⟩, ⟨rfl, leN_entN⟩, ⟨rfl, leN_entN⟩, trivial⟩⟩
  · obtain ⟨l1, l2⟩ := s.last hkn
    have hkk := s.hk
    have w6 : IntKind.i64.wrap ((7 : Int) + 1) = ((7 + 1 : Nat) : Int) := rfl
    repeat' (first | (apply And.intro <;> intro hc <;> (first | exact Bool.noConfusion hc | (exfalso; first | exact absurd rfl hc | omega) | (simp only [decide_eq_true_eq, decide_eq_false_iff_not, Bool.not_eq_true', Bool.not_eq_false', beq_iff_eq, beq_eq_false_iff_ne, bne_iff_ne, bne_eq_false_iff_eq, Bool.true_eq_false, Bool.false_eq_true, ne_eq, not_true_eq_false] at hc <;> first | exact absurd rfl hc | (exfalso; first | exact absurd rfl hc | omega) | skip) | skip)) | (refine And.intro (by first | exact trivial | decide | omega | (dsimp only; omega) | exact fun _ _ => rfl | exact ⟨by assumption, by first | exact trivial | decide | omega | (dsimp only; omega)⟩) ?_) | (apply And.intro) | (intro s hs; skip) | (refine Exists.intro _ (And.intro ⟨rfl, rfl, rfl⟩ ?_)))
    conv => whnf
    refine ⟨s', [], by show M0.length - s'.i < _; rw [f4]; omega, rfl, ⟨leF_int rfl, leF_int rfl, leF_c (leC_os rfl (by rw [f1, List.length_set])), leF_c (leC_os rfl (by rw [f2, l2])), leF_int (by rw [f3]; omega), leF_int rfl, leF_int (by rw [f4]; rfl), trivial⟩, ⟨⟨rfl, ⟨rfl, by show _ = s'.M.length; rw [f1, List.length_set]; rfl, rfl, rfl, fun p hp j hj => ?_⟩⟩, ⟨rfl, leN_eqN (by rw [f1]; exact congrArg Sed.held (set_ne (by decide)).symm)⟩, ⟨rfl, leN_eqN (by rw [f1]; exact congrArg Sed.held (set_ne (by decide)).symm)⟩, ⟨rfl, leN_eqN (by rw [f1]; exact congrArg Sed.held (set_ne (by decide)).symm)⟩, ⟨rfl, leN_eqN (by rw [f1]; exact congrArg Sed.held (set_ne (by decide)).symm)⟩, ⟨rfl, leN_eqN (by rw [f1]; exact congrArg Sed.held (set_ne (by decide)).symm)⟩, ⟨rfl, leN_eqN (by rw [f1]; exact congrArg Sed.held (set_ne (by decide)).symm)⟩, ⟨rfl, leN_eqN (by rw [f1]; exact congrArg Sed.held (set_ne (by decide)).symm)⟩, ⟨rfl, leN_eqN (by rw [f1, set_at hiM]; exact l1)⟩, ⟨rfl, leN_eqZ (by rw [f2, l2])⟩, trivial⟩⟩
    have hp : p < M.length := hp
    have hj : j < 3 := hj
    show LeC _ (rowP 2 M p j) (rowP 2 s'.M p j)
    rw [f1]
    rcases (show p = 0 ∨ p = 1 ∨ p = 2 ∨ p = 3 ∨ p = 4 ∨ p = 5 ∨ p = 6 ∨ p = 7 by omega) with rfl | rfl | rfl | rfl | rfl | rfl | rfl | rfl
    all_goals first
      | exact rowP_set_ne hj (by decide) rfl rfl
      | skip
    refine rowP_set_at hiM ?_
    rcases j with _ | _ | _ | j
    · exact leC_int rfl
    · exact leC_int rfl
    · exact leC_os rfl runH_len.symm
    · omega
theorem st2_all (M0 : List Sed) (now draw : Int) (hm : ∀ s ∈ M0, SdOk s) (h8 : M0.length ≤ 8) (hd : drawOk draw) (ht : 0 ≤ now ∧ now ≤ 1099511627776) (s : StI M0 now draw) (hil : s.i < M0.length) (K : Kt) :
    exec T (mkQ LMs) 1024 Try.f21.ntmps 0 (loopIn (dropC 5 (Try.f21.body.getD Code.ret))) (S2 M0 now draw s).fr (S2 M0 now draw s).H (S2 M0 now draw s).nx (seqK (fun fr H _ => Goes (S2 M0 now draw) (fun s => M0.length - s.i) 0 (M0.length - s.i) fr H) K) := by
  rcases (show s.i = 0 ∨ s.i = 1 ∨ s.i = 2 ∨ s.i = 3 ∨ s.i = 4 ∨ s.i = 5 ∨ s.i = 6 ∨ s.i = 7 by omega) with h | h | h | h | h | h | h | h
  · exact st2_0 M0 now draw hm h8 hd ht s h hil K
  · exact st2_1 M0 now draw hm h8 hd ht s h hil K
  · exact st2_2 M0 now draw hm h8 hd ht s h hil K
  · exact st2_3 M0 now draw hm h8 hd ht s h hil K
  · exact st2_4 M0 now draw hm h8 hd ht s h hil K
  · exact st2_5 M0 now draw hm h8 hd ht s h hil K
  · exact st2_6 M0 now draw hm h8 hd ht s h hil K
  · exact st2_7 M0 now draw hm h8 hd ht s h hil K
end Go.Proofs.Ytfaibcgakcmhcaa.AX

/- Package multicast by AX2: Step. -/
namespace Go.Proofs.Ytfaibcgakcmhcaa.AX
open Go.RowKit
set_option linter.unusedVariables false
set_option linter.unusedSimpArgs false
theorem fin2_err {R : List Sed × List Cas × Int} {k : Int} {H : Hp} (h : R = ([], [], k)) : FinNs (.tup [.c (.os 0 0 R.1.length), .c (.os 1 0 R.2.1.length), .c (.int .i64 R.2.2)]) [entN neS 78 R.1, entN neC 32 R.2.1] (.tup [.c .nils, .c .nils, .c (.int .i64 k)]) H := by
  subst h
  exact ⟨⟨[(0, none), (1, none)], rfl, leF_tup ⟨leC_nils_os rfl, leC_nils_os rfl, leC_int rfl, trivial⟩, ⟨⟨rfl, rfl, rfl, Nat.le_of_ble_eq_true rfl⟩, ⟨rfl, rfl, rfl, Nat.le_of_ble_eq_true rfl⟩, trivial⟩⟩⟩
def StI.start (M0 : List Sed) (now draw : Int) : StI M0 now draw := ⟨0, M0, [], 0, rfl, Nat.zero_le _, Nat.le_refl _, Nat.le_refl _, fun _ _ => rfl, rfl, rfl⟩
theorem StI.last {M0 : List Sed} {now draw : Int} (s : StI M0 now draw) (h : ¬ s.i < M0.length) : s.M = (runL now draw M0 0).1 ∧ s.Z = (runL now draw M0 0).2 := by
  have hk := s.hi
  have e1 := s.r1
  have e2 := s.r2
  rw [List.drop_of_length_le (by omega)] at e1 e2
  rw [List.take_of_length_le (by rw [s.n]; omega)] at e1
  rw [← e1, ← e2]
  exact ⟨(List.append_nil _).symm, (List.append_nil _).symm⟩
theorem give_held {c : Wc} {L : List Sed} {p : Nat} {t : TypeId} {k : Nat} (hd : hget c.H k = some (entN neH t (L.getD p default).held)) (hk : c.dead k = true) : LeC c (.os k 0 (L.getD p default).held.length) (slN neH (L.getD p default).held) := by
  refine leC_os_sl hd hk rfl rfl (Nat.le_of_eq (Nat.zero_add _)) fun q hq j hj => ?_
  show LeC c (rowN neH (L.getD p default).held (0 + q) j) (rowN neH (L.getD p default).held q j)
  rw [Nat.zero_add]
  exact (neH.sh _ j hj).le
/-- The rows with the messages given up. -/
theorem give_rowP {c : Wc} {d : Nat} {L : List Sed} {p j : Nat} {t : TypeId} (hj : j < 3) (hd : hget c.H (d + p) = some (entN neH t (L.getD p default).held)) (hk : c.dead (d + p) = true) : LeC c (rowP d L p j) (rowN neS L p j) := by
  rcases j with _ | _ | _ | j
  · exact leC_int rfl
  · exact leC_int rfl
  · exact give_held hd hk
  · omega
set_option maxHeartbeats 8000000 in
set_option maxRecDepth 20000 in
theorem mstep2 (M0 : List Sed) (now draw : Int) (hm : ∀ s ∈ M0, SdOk s) (h8 : M0.length ≤ 8) (hd : drawOk draw) (ht : 0 ≤ now ∧ now ≤ 1099511627776) (R : List Sed × List Cas × Int) (hR : R = ((runL now draw M0 0).1, (runL now draw M0 0).2, 0)) :
    Sem Try.prog Try.f21.ntmps 0 (dropC 5 (Try.f21.body.getD Code.ret)) (S8 now draw M0).fr (S8 now draw M0).H (S8 now draw M0).nx (endH T Try.f21.results.toList fun x H _ => FinNs (.tup [.c (.os 0 0 R.1.length), .c (.os 1 0 R.2.1.length), .c (.int .i64 R.2.2)]) [entN neS 78 R.1, entN neC 32 R.2.1] x H) := by
  refine sem_exec (wd := 1024) (Q := mkQ LMs) (by decide) tysOk (q_of LMs_ok) mixed ?_
  unfold S8
  repeat' (first | (apply And.intro <;> intro hc <;> (first | exact Bool.noConfusion hc | (exfalso; first | exact absurd rfl hc | omega) | (simp only [decide_eq_true_eq, decide_eq_false_iff_not, Bool.not_eq_true', Bool.not_eq_false', beq_iff_eq, beq_eq_false_iff_ne, bne_iff_ne, bne_eq_false_iff_eq, Bool.true_eq_false, Bool.false_eq_true, ne_eq, not_true_eq_false] at hc <;> first | exact absurd rfl hc | (exfalso; first | exact absurd rfl hc | omega) | skip) | skip)) | (refine And.intro (by first | exact trivial | decide | omega | (dsimp only; omega) | exact fun _ _ => rfl | exact ⟨by assumption, by first | exact trivial | decide | omega | (dsimp only; omega)⟩) ?_) | (apply And.intro) | (intro s hs; skip) | (refine Exists.intro _ (And.intro ⟨rfl, rfl, rfl⟩ ?_)))
  conv => whnf
  refine loop_intro (mono_of LMs_ok) (S2 M0 now draw) (fun s => M0.length - s.i) (fun _ => rfl) ?_ (StI.start M0 now draw) [(10, none)] ⟨rfl, ⟨leF_int rfl, leF_int rfl, leF_c (leC_os rfl rfl), leF_c (leC_nils_os rfl), leF_int rfl, leF_int rfl, leF_int rfl, trivial⟩, ⟨⟨rfl, leN_entP (by omega) (lt8 rfl rfl rfl rfl rfl rfl rfl rfl)⟩, ⟨rfl, leN_entN⟩, ⟨rfl, leN_entN⟩, ⟨rfl, leN_entN⟩, ⟨rfl, leN_entN⟩, ⟨rfl, leN_entN⟩, ⟨rfl, leN_entN⟩, ⟨rfl, leN_entN⟩, ⟨rfl, leN_entN⟩, ⟨rfl, rfl, rfl, Nat.le_of_ble_eq_true rfl⟩, trivial⟩⟩
  intro s
  by_cases hil : s.i < M0.length
  · exact st2_all M0 now draw hm h8 hd ht s hil _
  · obtain ⟨l1, l2⟩ := s.last hil
    have hML := s.n
    unfold S2
    repeat' (first | (apply And.intro <;> intro hc <;> (first | exact Bool.noConfusion hc | (exfalso; first | exact absurd rfl hc | omega) | (simp only [decide_eq_true_eq, decide_eq_false_iff_not, Bool.not_eq_true', Bool.not_eq_false', beq_iff_eq, beq_eq_false_iff_ne, bne_iff_ne, bne_eq_false_iff_eq, Bool.true_eq_false, Bool.false_eq_true, ne_eq, not_true_eq_false] at hc <;> first | exact absurd rfl hc | (exfalso; first | exact absurd rfl hc | omega) | skip) | skip)) | (refine And.intro (by first | exact trivial | decide | omega | (dsimp only; omega) | exact fun _ _ => rfl | exact ⟨by assumption, by first | exact trivial | decide | omega | (dsimp only; omega)⟩) ?_) | (apply And.intro) | (intro s hs; skip) | (refine Exists.intro _ (And.intro ⟨rfl, rfl, rfl⟩ ?_)))
    subst hR
    refine ⟨[(0, some 1), (1, some 10)], rfl, leF_tup ⟨leC_os rfl (by rw [l1]), leC_os rfl (by rw [l2]), leC_int rfl, trivial⟩, ⟨⟨rfl, ⟨rfl, by show s.M.length = _; rw [l1]; rfl, rfl, rfl, fun p hp j hj => ?_⟩⟩, ⟨rfl, leN_eqZ l2⟩, trivial⟩⟩
    have hp : p < s.M.length := hp
    have hj : j < 3 := hj
    show LeC _ (rowP 2 s.M p j) (rowN neS (runL now draw M0 0).1 p j)
    rw [← l1]
    rcases (show p = 0 ∨ p = 1 ∨ p = 2 ∨ p = 3 ∨ p = 4 ∨ p = 5 ∨ p = 6 ∨ p = 7 by omega) with rfl | rfl | rfl | rfl | rfl | rfl | rfl | rfl
    all_goals exact give_rowP hj rfl rfl
set_option maxHeartbeats 8000000 in
set_option maxRecDepth 20000 in
theorem mstep1 (L : List Sed) (now draw : Int) (hL : LHn L) (hdr : drawOk draw) : NewsOk Try.prog 21 [(cNS neS neS_sz).enc L, (cI .i64).enc now, (cI .u32).enc draw] (.tup [.c (.os 0 0 (mstepF L now draw).1.length), .c (.os 1 0 (mstepF L now draw).2.1.length), .c (.int .i64 (mstepF L now draw).2.2)]) [entN neS 78 (mstepF L now draw).1, entN neC 32 (mstepF L now draw).2.1] := by
  obtain ⟨R, hR⟩ : ∃ R, mstepF L now draw = R := ⟨_, rfl⟩
  rw [hR]
  obtain ⟨V, hV⟩ : ∃ V, validL L = V := ⟨_, rfl⟩
  obtain ⟨B, hB⟩ : ∃ B, isTimeT now = B := ⟨_, rfl⟩
  refine news_introS tysOk Try.func21 rfl _ (by show 3 ≤ _; decide) ?_
  refine sem_step (wd := 1) (Q := mkQ LMs) (by decide) tysOk (q_of LMs_ok) mixed ?_
  refine sem_step (wd := 1) (Q := mkQ LMs) (by decide) tysOk (q_of LMs_ok) mixed ?_
  repeat' (first | (apply And.intro <;> intro hc <;> (first | exact Bool.noConfusion hc | (exfalso; first | exact absurd rfl hc) | (simp only [decide_eq_true_eq, decide_eq_false_iff_not, Bool.not_eq_true', Bool.not_eq_false', beq_iff_eq, beq_eq_false_iff_ne, bne_iff_ne, bne_eq_false_iff_eq, Bool.true_eq_false, Bool.false_eq_true, ne_eq, not_true_eq_false] at hc <;> first | exact absurd rfl hc | (exfalso; first | exact absurd rfl hc) | skip) | skip)) | (refine And.intro (by first | exact trivial | decide | omega | (dsimp only; omega) | exact fun _ _ => rfl | exact ⟨by assumption, by first | exact trivial | decide | omega | (dsimp only; omega)⟩) ?_) | (apply And.intro) | (intro s hs; (have q : V = s := rd_validL hs (toN_row neS_rd _) hV; clear hs; subst q)) | (refine Exists.intro _ (And.intro ⟨rfl, rfl, rfl⟩ ?_)))
  · exact fun _ _ => ⟨rfl, okHs_sl _⟩
  · exact Eq.mpr (congrArg LHn (toN_row neS_rd _)) hL
  · exact fin2_err (by rw [← hR]; unfold mstepF; rw [if_pos (hV.trans (by assumption))])
  have hVt : validL L = true := hV.trans (by assumption)
  refine sem_step (wd := 1) (Q := mkQ LMs) (by decide) tysOk (q_of LMs_ok) mixed ?_
  repeat' (first | (apply And.intro <;> intro hc <;> (first | exact Bool.noConfusion hc | (exfalso; first | exact absurd rfl hc) | (simp only [decide_eq_true_eq, decide_eq_false_iff_not, Bool.not_eq_true', Bool.not_eq_false', beq_iff_eq, beq_eq_false_iff_ne, bne_iff_ne, bne_eq_false_iff_eq, Bool.true_eq_false, Bool.false_eq_true, ne_eq, not_true_eq_false] at hc <;> first | exact absurd rfl hc | (exfalso; first | exact absurd rfl hc) | skip) | skip)) | (refine And.intro (by first | exact trivial | decide | omega | (dsimp only; omega) | exact fun _ _ => rfl | exact ⟨by assumption, by first | exact trivial | decide | omega | (dsimp only; omega)⟩) ?_) | (apply And.intro) | (intro s hs; (have q : B = s := hB.symm.trans hs.symm; clear hs; subst q)) | (refine Exists.intro _ (And.intro ⟨rfl, rfl, rfl⟩ ?_)))
  · exact fin2_err (by rw [← hR]; unfold mstepF; rw [if_neg (by rw [hVt]; simp), if_pos (hB.trans (by assumption))])
  have hBt : isTimeT now = true := hB.trans (by assumption)
  refine sem_step (wd := 9) (Q := mkQ LMs) (by decide) tysOk (q_of LMs_ok) mixed ?_
  repeat' (first | (apply And.intro <;> intro hc <;> (first | exact Bool.noConfusion hc | (exfalso; first | exact absurd rfl hc) | (simp only [decide_eq_true_eq, decide_eq_false_iff_not, Bool.not_eq_true', Bool.not_eq_false', beq_iff_eq, beq_eq_false_iff_ne, bne_iff_ne, bne_eq_false_iff_eq, Bool.true_eq_false, Bool.false_eq_true, ne_eq, not_true_eq_false] at hc <;> first | exact absurd rfl hc | (exfalso; first | exact absurd rfl hc) | skip) | skip)) | (refine And.intro (by first | exact trivial | decide | omega | (dsimp only; omega) | exact fun _ _ => rfl | exact ⟨by assumption, by first | exact trivial | decide | omega | (dsimp only; omega)⟩) ?_) | (apply And.intro) | (intro s hs; (have q : L = s := (hs.trans (toN_row neS_rd _)).symm; clear hs; subst q)) | (refine Exists.intro _ (And.intro ⟨rfl, rfl, rfl⟩ ?_)))
  · exact fun _ _ => ⟨rfl, okHs_sl _⟩
  · exact Eq.mpr (congrArg Cl8 (toN_row neS_rd _)) (vl_c8 hVt)
  change Sem _ _ _ _ _ _ _ _
  refine sem_cut (wd := 1024) (Q := mkQ LMs) (by decide) tysOk (q_of LMs_ok) (mono_of LMs_ok) mixed (fun _ : Unit => S8 now draw (L.map (clsS now))) (by intro _; rfl) ?_ ?_
  · repeat' (first | (apply And.intro <;> intro hc <;> (first | exact Bool.noConfusion hc | (exfalso; first | exact absurd rfl hc) | (simp only [decide_eq_true_eq, decide_eq_false_iff_not, Bool.not_eq_true', Bool.not_eq_false', beq_iff_eq, beq_eq_false_iff_ne, bne_iff_ne, bne_eq_false_iff_eq, Bool.true_eq_false, Bool.false_eq_true, ne_eq, not_true_eq_false] at hc <;> first | exact absurd rfl hc | (exfalso; first | exact absurd rfl hc) | skip) | skip)) | (refine And.intro (by first | exact trivial | decide | omega | (dsimp only; omega) | exact fun _ _ => rfl | exact ⟨by assumption, by first | exact trivial | decide | omega | (dsimp only; omega)⟩) ?_) | (apply And.intro) | (intro s hs; skip) | (refine Exists.intro _ (And.intro ⟨rfl, rfl, rfl⟩ ?_)))
    conv => whnf
    refine loop_intro (mono_of LMs_ok) (S1 L now draw) (fun s => L.length - s.i) (fun _ => rfl) ?_ ⟨0, L, rfl, Nat.zero_le _, fun p hp => absurd hp (Nat.not_lt_zero p), fun _ _ => rfl⟩ [(1, some 18), (2, some 19), (3, some 20), (4, some 21), (5, some 22), (6, some 23), (7, some 24), (8, some 25), (9, some 26)] ⟨rfl, ⟨leF_int rfl, leF_int rfl, leF_c (leC_os rfl rfl), leF_int rfl, leF_int rfl, trivial⟩, ⟨⟨rfl, ⟨rfl, rfl, rfl, rfl, fun p hp j hj => rowP_le hj (lt8 (P := fun p => Wc.src _ (2 + p) = some (19 + p)) rfl rfl rfl rfl rfl rfl rfl rfl p (Nat.lt_of_lt_of_le hp (vl_len hVt)))⟩⟩, ⟨rfl, leN_entN⟩, ⟨rfl, leN_entN⟩, ⟨rfl, leN_entN⟩, ⟨rfl, leN_entN⟩, ⟨rfl, leN_entN⟩, ⟨rfl, leN_entN⟩, ⟨rfl, leN_entN⟩, ⟨rfl, leN_entN⟩, trivial⟩⟩
    intro s
    by_cases hil : s.i < L.length
    · exact st1_all L now draw hVt s hil _
    · have eM := sl_end s hil
      have hML : s.M.length = L.length := s.n
      unfold S1
      repeat' (first | (apply And.intro <;> intro hc <;> (first | exact Bool.noConfusion hc | (exfalso; first | exact absurd rfl hc | omega) | (simp only [decide_eq_true_eq, decide_eq_false_iff_not, Bool.not_eq_true', Bool.not_eq_false', beq_iff_eq, beq_eq_false_iff_ne, bne_iff_ne, bne_eq_false_iff_eq, Bool.true_eq_false, Bool.false_eq_true, ne_eq, not_true_eq_false] at hc <;> first | exact absurd rfl hc | (exfalso; first | exact absurd rfl hc | omega) | skip) | skip)) | (refine And.intro (by first | exact trivial | decide | omega | (dsimp only; omega) | exact fun _ _ => rfl | exact ⟨by assumption, by first | exact trivial | decide | omega | (dsimp only; omega)⟩) ?_) | (apply And.intro) | (intro s hs; skip) | (refine Exists.intro _ (And.intro ⟨rfl, rfl, rfl⟩ ?_)))
      conv => whnf
      rw [← eM]
      exact ⟨(), [], rfl, ⟨leF_int rfl, leF_int rfl, leF_c (leC_os rfl rfl), trivial⟩, ⟨⟨rfl, leN_entP (by have := vl_len hVt; omega) (lt8 rfl rfl rfl rfl rfl rfl rfl rfl)⟩, ⟨rfl, leN_entN⟩, ⟨rfl, leN_entN⟩, ⟨rfl, leN_entN⟩, ⟨rfl, leN_entN⟩, ⟨rfl, leN_entN⟩, ⟨rfl, leN_entN⟩, ⟨rfl, leN_entN⟩, ⟨rfl, leN_entN⟩, trivial⟩⟩
  · intro _
    have hRe : R = ((runL now draw (L.map (clsS now)) 0).1, (runL now draw (L.map (clsS now)) 0).2, 0) := by
      rw [← hR]; unfold mstepF; rw [if_neg (by rw [hVt]; simp), if_neg (by rw [hBt]; simp)]
    exact mstep2 _ now draw (fun x hx => by obtain ⟨y, hy, rfl⟩ := List.mem_map.1 hx; exact cls_ok (vl_mem hVt y hy).2) (by rw [List.length_map]; exact vl_len hVt) hdr (isTimeT_iff.1 hBt) R hRe
end Go.Proofs.Ytfaibcgakcmhcaa.AX

/- Package multicast by AX2: the contract of Step. -/
namespace Go.Proofs.Ytfaibcgakcmhcaa.AX
open Go.RowKit
set_option linter.unusedVariables false
set_option linter.unusedSimpArgs false
def SftE (m d : Nat) (x y : EV) : Prop := ∀ (r r2 : Ren) (X W X2 W2 : Nat → Prop) (w : World) (v : Value), (∀ k, k < m → r2 (d + k) = r k) → (∀ b, X2 b → X b ∨ W b) → (∀ b, W2 b → X b ∨ W b) → x.rel r X W w v → y.rel r2 X2 W2 w v
theorem sftE_c {m d : Nat} {x y : CV} (h : Sft m d x y) : SftE m d (.c x) (.c y) := fun r r2 X W X2 W2 w v hr hX hW hx => h r r2 X W X2 W2 w v hr hX hW hx
theorem sftF_tup {m d : Nat} {l l' : List EV} (hl : l.length = l'.length) (h : ∀ (i : Nat) x y, l[i]? = some x → l'[i]? = some y → SftE m d x y) : SftF m d (.tup l) (.tup l') := by
  rintro r r2 X W X2 W2 w v hr hX hW ⟨vs, rfl, hs, hc⟩
  refine ⟨vs, rfl, by rw [hs, hl], fun i y u hy hu => ?_⟩
  have hi : i < l.length := by rw [hl]; exact (List.getElem?_eq_some_iff.1 hy).1
  exact h i _ y (List.getElem?_eq_getElem hi) hy r r2 X W X2 W2 w u hr hX hW (hc i _ u (List.getElem?_eq_getElem hi) hu)
abbrev mstepE : Entry := newsE (AC.cons (cNS neS neS_sz) (AC.cons (cI .i64) (AC.cons (cI .u32) AC.nil))) (fun a => LHn a.1 ∧ drawOk a.2.2.1) (fun a => mstepF a.1 a.2.1 a.2.2.1) 2 (fun nm R => .tup [.c (.os nm 0 R.1.length), .c (.os (nm + 1) 0 R.2.1.length), .c (.int .i64 R.2.2)]) (fun _ R => [entN neS 78 R.1, entN neC 32 R.2.1])
theorem mstepE_ok : EntOk Try.prog 21 mstepE := newsE_ok ⟨_, Try.func21, rfl, by kernel_rfl⟩ (fun _ _ => rfl) (fun nm s => sftF_tup rfl fun i x y hx hy => by
  rcases i with _ | _ | _ | i
  · injection hx with hx; injection hy with hy; subst hx hy
    exact sftE_c (by have h : Sft 2 nm (.os 0 0 s.1.length) (.os (nm + 0) 0 s.1.length) := sft_os (by decide); exact h)
  · injection hx with hx; injection hy with hy; subst hx hy
    exact sftE_c (by have h : Sft 2 nm (.os 1 0 s.2.1.length) (.os (nm + 1) 0 s.2.1.length) := sft_os (by decide); exact h)
  · injection hx with hx; injection hy with hy; subst hx hy
    exact sftE_c sft_int
  · cases hx) (fun nm a ha k e e' h h' => by
  iterate 2 (rcases k with _ | k; · (injection h with h; injection h' with h'; subst h h'; first | exact ⟨rfl, rfl, rfl, rfl, fun i hi j hj => sft_sh (neS.sh _ j hj)⟩ | exact ⟨rfl, rfl, rfl, rfl, fun i hi j hj => sft_sh (neC.sh _ j hj)⟩))
  cases h) fun a h => mstep1 a.1 a.2.1 a.2.2.1 h.1 h.2
end Go.Proofs.Ytfaibcgakcmhcaa.AX

/- Layer 34 (by AX2): the makers Trickle and spoiled. -/
namespace Go.Proofs.Ytfaibcgakcmhcaa.AX
open Go.RowKit
set_option linter.unusedVariables false
set_option linter.unusedSimpArgs false
structure TrkS (n : Nat) (l : List Int) where
  k : Int
  x : Trk
  q : Int
  hk : 0 ≤ k ∧ k ≤ 4
  hx : validT x = true
  ht : TapeOk n (rI l) q
end Go.Proofs.Ytfaibcgakcmhcaa.AX

/- MulticastOnce, by AX2: the law returns true. -/
namespace Go.Proofs.Ytfaibcgakcmhcaa.AX
open Go.RowKit
set_option linter.unusedVariables false
set_option linter.unusedSimpArgs false
structure OnS (m : Nat) (z : List Int) where
  i : Nat
  q : Int
  now : Int
  l : List Sed
  G : Nat → Bool
  hi : i ≤ 60
  ht : TapeOk m (rI z) q
  hn : 0 ≤ now ∧ now ≤ 6 * (i : Int)
  hI : OnI l G
def LOn : CsL := (9, some newTapeE) :: (11, some acceptE) :: (21, some mstepE) :: (12, some known35E) :: LT0
theorem LOn_ok : AllOk Try.prog LOn := ⟨newTapeE_ok, acceptE_ok, mstepE_ok, known35E_ok, LT0_ok⟩
theorem nth_rep {n j : Nat} {x : CV} (h : j < n) : nth (List.replicate n x) j = x := by
  unfold nth
  simp [List.getD_eq_getElem?_getD, List.getElem?_replicate, h]
def gotE (G : Nat → Bool) : Ent := ⟨50, 1, 384, true, fun _ j => .bool (G j)⟩
theorem w_id5 {x : Int} (h : 0 ≤ x ∧ x < (((5 : Int), ()) : Int × Unit).fst) : IntKind.u64.wrap (IntKind.i64.wrap (1 + x)) = 1 + x := by
  have h : 0 ≤ x ∧ x < 5 := h
  rw [IntWalk.i64_in _ (by omega), IntWalk.u64_in _ (by omega)]
theorem on_go {s : List Sed × Bool × Int} {M l : List Sed} {C : Cas} {x y now draw : Int} {G : Nat → Bool} (J : Nat) (hJ : J = (1 + x).toNat * 64 + y.toNat) (hs : s = acceptF M now C false draw) (hM : M = l) (hC : C = ⟨1 + x, y, []⟩) (hI : OnI l G) (ht : 0 ≤ now ∧ now ≤ 1099511627776) (hx : 0 ≤ x ∧ x < (((5 : Int), ()) : Int × Unit).fst) (hy : 0 ≤ y ∧ y < (((64 : Int), ()) : Int × Unit).fst) :
    ∃ l' b, s = (l', b, 0) ∧ (b = true → G J = false) ∧ OnI l' (putG G J (G J || b)) := by
  subst hM hC hJ
  have hx : 0 ≤ x ∧ x < 5 := hx
  have hy : 0 ≤ y ∧ y < 64 := hy
  obtain ⟨l', b, h1, h2, h3⟩ := on_accept (now := now) (draw := draw) hI (show 1 ≤ 1 + x ∧ 1 + x ≤ 5 by omega) hy ht
  exact ⟨l', b, hs.trans h1, h2, h3⟩
theorem on_go2 {s : List Sed × List Cas × Int} {M l : List Sed} {now draw : Int} {G : Nat → Bool} (hs : s = mstepF M now draw) (hM : M = l) (hI : OnI l G) (ht : 0 ≤ now ∧ now ≤ 1099511627776) : ∃ l' Z, s = (l', Z, 0) ∧ OnI l' G := by
  subst hM
  obtain ⟨l', Z, h1, h2⟩ := on_step (draw := draw) hI ht
  exact ⟨l', Z, hs.trans h1, h2⟩
theorem got_put {c : Wc} {G : Nat → Bool} {J : Nat} {b v : Bool} {g : Nat → CV} (hg : g 0 = .bool v) (h : v = b) : LeN c ⟨50, 1, 384, true, updE true (fun _ j => .bool (G j)) 0 (ovw true 384 (fun j => .bool (G j)) J 1 g)⟩ (gotE (putG G J b)) := by
  subst h
  refine leN_varA fun j hj => ?_
  show LeC c (ovs (fun j => .bool (G j)) J 1 g j) (.bool (putG G J v j))
  rw [ovs_eq]
  unfold ovr putG
  by_cases hJ : j = J
  · subst hJ
    rw [show (Nat.ble j j && Nat.blt j (j + 1)) = true from by rw [Nat.ble_eq_true_of_le (Nat.le_refl _), show Nat.blt j (j + 1) = true from Nat.ble_eq_true_of_le (Nat.le_refl _)]; rfl, Nat.sub_self, beq_refl_nat]
    rw [cond_true, hg]; exact leC_bool rfl
  · rw [beq_ne hJ]
    have e : (Nat.ble J j && Nat.blt j (J + 1)) = false := by
      cases hb : (Nat.ble J j && Nat.blt j (J + 1)) with
      | false => rfl
      | true =>
        simp only [Bool.and_eq_true] at hb
        have h1 := Nat.le_of_ble_eq_true hb.1
        have h2 : j + 1 ≤ J + 1 := Nat.le_of_ble_eq_true hb.2
        omega
    rw [e]; exact leC_bool rfl
theorem got0 {c : Wc} {j : Nat} (hj : j < 384) : LeC c (nth (List.replicate 384 (.bool false)) j) (.bool false) := by
  rw [nth_rep hj]
  exact leC_bool rfl
set_option maxHeartbeats 8000000 in
set_option maxRecDepth 20000 in
theorem once_ok (n : Nat) (z : List Int) (hz : rngL z) : PureOk Try.prog 5 [.e (.c (.sl true n 1 (rI z)))] (.e (.c (.bool true))) := by
  refine pure_intro (wd := 2) (Q := mkQ LOn) (by decide) tysOk (q_of LOn_ok) mixed Try.func5 rfl _ (by show 1 ≤ _; decide) _ ?_
  repeat' (first | (apply And.intro <;> intro hc <;> (first | exact Bool.noConfusion hc | (simp only [decide_eq_true_eq, decide_eq_false_iff_not, Bool.not_eq_true', Bool.not_eq_false', beq_iff_eq, beq_eq_false_iff_ne, bne_iff_ne, bne_eq_false_iff_eq, Bool.true_eq_false, Bool.false_eq_true] at hc) | skip)) | (refine And.intro (by first | exact trivial | decide | omega | (dsimp only; omega) | exact fun _ _ => rfl | exact ⟨by assumption, by first | exact trivial | decide | omega | (dsimp only; omega)⟩) ?_) | (apply And.intro) | (intro s hs))
  · exact ⟨z, rfl, hz⟩
  intro ht0
  obtain ⟨m, em⟩ : ∃ m, m = s := ⟨s, rfl⟩
  obtain ⟨q0, eq0⟩ : ∃ q0, q0 = hs := ⟨hs, rfl⟩
  subst em eq0
  conv => whnf
  refine loop_intro (mono_of LOn_ok) (fun s : OnS m z => (⟨[(3, one (.ptr 0 0 0 false)), (4, one (.os 1 0 s.l.length)), (5, one (.ptr 2 0 0 false)), (6, one (.int .i64 s.now)), (7, one (.int .i64 (s.i : Int)))], [(0, some (tapeN m (rI z) s.q)), (1, some (entN neS 78 s.l)), (2, some (gotE s.G))], 3⟩ : Hd)) (fun s => 60 - s.i) (fun _ => rfl) ?_ ⟨0, q0, 0, [], fun _ => false, Nat.zero_le _, ht0, ⟨Int.le_refl _, by omega⟩, on_nil⟩ [(0, some 4), (1, none), (2, some 10)] ⟨rfl, ⟨leF_ptr rfl, leF_c (leC_nils_os rfl), leF_ptr rfl, leF_int rfl, leF_int rfl, trivial⟩, ⟨⟨rfl, tapeN_le⟩, ⟨rfl, rfl, rfl, Nat.le_of_ble_eq_true rfl⟩, ⟨rfl, leN_varA fun j hj => got0 hj⟩, trivial⟩⟩
  rintro ⟨i, q, now, l, G, hi, ht, hn, hI⟩
  dsimp only at hi ht hn hI ⊢
  by_cases h60 : i < 60
  · have htn : 0 ≤ now ∧ now ≤ 1099511627776 := ⟨hn.1, by omega⟩
    repeat' (first | (simp (disch := assumption) only [w_id5]) | (apply And.intro <;> intro hc <;> (first | exact Bool.noConfusion hc | (exfalso; first | exact absurd rfl hc | omega) | (simp only [decide_eq_true_eq, decide_eq_false_iff_not, Bool.not_eq_true', Bool.not_eq_false', beq_iff_eq, beq_eq_false_iff_ne, bne_iff_ne, bne_eq_false_iff_eq, Bool.true_eq_false, Bool.false_eq_true, ne_eq, not_true_eq_false] at hc <;> first | exact absurd rfl hc | (exfalso; first | exact absurd rfl hc | omega) | skip) | skip)) | (refine And.intro (by first | exact trivial | decide | omega | (dsimp only; omega) | exact fun _ _ => rfl | exact ⟨by assumption, by first | exact trivial | decide | omega | (dsimp only; omega)⟩) ?_) | (apply And.intro) | (intro s hs; (first | (rename_i x hx qx hqx y hy qy hqy dd hdd qd hqd; obtain ⟨l', b, e, hG, hI'⟩ := on_go (x := x) (y := y) (0 + (1 + x).toNat * 64 + y.toNat * 1) (by omega) hs (toN_row0 neS_rd _) rfl hI htn hx hy; clear hs; subst e) | (obtain ⟨l', Z', e, hI'⟩ := on_go2 hs (toN_row0 neS_rd _) (by assumption) htn; clear hs; subst e) | skip)))
    · exact ⟨rfl, okHs_sl _⟩
    · exact ⟨rfl, okD_nil⟩
    · exact ⟨Eq.mpr (congrArg LHn (toN_row0 neS_rd _)) (vl_hn hI.v), u32ok _⟩
    · exact absurd ((hG (by assumption)).symm.trans hc) (by simp)
    · exact ⟨rfl, okHs_sl _⟩
    · exact Eq.mpr (congrArg LHn (toN_row0 neS_rd _)) (vl_hn (OnI.v (by assumption)))
    · exact (u32ok _).1
    · exact (u32ok _).2
    · rename_i d hd
      have hd : 0 ≤ d ∧ d < 7 := hd
      conv => whnf
      refine ⟨⟨i + 1, s, now + d, l', _, by omega, hs, ⟨by omega, by omega⟩, hI'⟩, [(0, some 0), (1, some 123), (2, some 2)], by dsimp only; omega, rfl, ⟨leF_ptr rfl, leF_c (leC_os rfl rfl), leF_ptr rfl, leF_int (IntWalk.i64_in _ (by omega)), leF_int ((IntWalk.i64_in _ (by omega)).trans (by show (i : Int) + 1 = ((i + 1 : Nat) : Int); omega)), trivial⟩, ⟨⟨rfl, tapeN_le⟩, ⟨rfl, leN_entN⟩, ⟨rfl, got_put rfl (by first | (simp_all; done) | (rename_i g1 g2; rw [g2]; rfl) | (rename_i g1 g2; rw [g1]; rfl))⟩, trivial⟩⟩
    · exact ⟨rfl, okHs_sl _⟩
    · exact Eq.mpr (congrArg LHn (toN_row0 neS_rd _)) (vl_hn (OnI.v (by assumption)))
    · exact (u32ok _).1
    · exact (u32ok _).2
    · rename_i d hd
      have hd : 0 ≤ d ∧ d < 7 := hd
      conv => whnf
      refine ⟨⟨i + 1, s, now + d, l', _, by omega, hs, ⟨by omega, by omega⟩, hI'⟩, [(0, some 0), (1, some 123), (2, some 2)], by dsimp only; omega, rfl, ⟨leF_ptr rfl, leF_c (leC_os rfl rfl), leF_ptr rfl, leF_int (IntWalk.i64_in _ (by omega)), leF_int ((IntWalk.i64_in _ (by omega)).trans (by show (i : Int) + 1 = ((i + 1 : Nat) : Int); omega)), trivial⟩, ⟨⟨rfl, tapeN_le⟩, ⟨rfl, leN_entN⟩, ⟨rfl, got_put rfl (by first | (simp_all; done) | (rename_i g1 g2; rw [g2]; rfl) | (rename_i g1 g2; rw [g1]; rfl))⟩, trivial⟩⟩
    · exact ⟨rfl, okHs_sl _⟩
    · exact Eq.mpr (congrArg LHn (toN_row0 neS_rd _)) (vl_hn (OnI.v (by assumption)))
    · exact (u32ok _).1
    · exact (u32ok _).2
    · rename_i d hd
      have hd : 0 ≤ d ∧ d < 7 := hd
      conv => whnf
      refine ⟨⟨i + 1, s, now + d, l', _, by omega, hs, ⟨by omega, by omega⟩, hI'⟩, [(0, some 0), (1, some 123), (2, some 2)], by dsimp only; omega, rfl, ⟨leF_ptr rfl, leF_c (leC_os rfl rfl), leF_ptr rfl, leF_int (IntWalk.i64_in _ (by omega)), leF_int ((IntWalk.i64_in _ (by omega)).trans (by show (i : Int) + 1 = ((i + 1 : Nat) : Int); omega)), trivial⟩, ⟨⟨rfl, tapeN_le⟩, ⟨rfl, leN_entN⟩, ⟨rfl, got_put rfl (by first | (simp_all; done) | (rename_i g1 g2; rw [g2]; rfl) | (rename_i g1 g2; rw [g1]; rfl))⟩, trivial⟩⟩
    · exact ⟨rfl, okHs_sl _⟩
    · exact Eq.mpr (congrArg LHn (toN_row0 neS_rd _)) (vl_hn (OnI.v (by assumption)))
    · exact (u32ok _).1
    · exact (u32ok _).2
    · rename_i d hd
      have hd : 0 ≤ d ∧ d < 7 := hd
      conv => whnf
      refine ⟨⟨i + 1, s, now + d, l', _, by omega, hs, ⟨by omega, by omega⟩, hI'⟩, [(0, some 0), (1, some 123), (2, some 2)], by dsimp only; omega, rfl, ⟨leF_ptr rfl, leF_c (leC_os rfl rfl), leF_ptr rfl, leF_int (IntWalk.i64_in _ (by omega)), leF_int ((IntWalk.i64_in _ (by omega)).trans (by show (i : Int) + 1 = ((i + 1 : Nat) : Int); omega)), trivial⟩, ⟨⟨rfl, tapeN_le⟩, ⟨rfl, leN_entN⟩, ⟨rfl, got_put rfl (by first | (simp_all; done) | (rename_i g1 g2; rw [g2]; rfl) | (rename_i g1 g2; rw [g1]; rfl))⟩, trivial⟩⟩
  · obtain rfl : i = 60 := by omega
    repeat' (first | (apply And.intro <;> intro hc <;> (first | exact Bool.noConfusion hc | (simp only [decide_eq_true_eq, decide_eq_false_iff_not, Bool.not_eq_true', Bool.not_eq_false', beq_iff_eq, beq_eq_false_iff_ne, bne_iff_ne, bne_eq_false_iff_eq, Bool.true_eq_false, Bool.false_eq_true] at hc) | skip)) | (refine And.intro (by first | exact trivial | decide | omega | (dsimp only; omega) | exact fun _ _ => rfl | exact ⟨by assumption, by first | exact trivial | decide | omega | (dsimp only; omega)⟩) ?_) | (apply And.intro) | (intro s hs))
    conv => whnf
    exact Done.mk (leF_bool hs)
end Go.Proofs.Ytfaibcgakcmhcaa.AX

/- MulticastOnce: the walk. -/
namespace Go.Proofs.Ytfaibcgakcmhcaa
open Go.RowKit AX
set_option linter.unusedVariables false
theorem walkMulticastOnce (a0 : Option Addr) (len0 cap0 : Nat) (z0 : List Int) (w : World) (w0 : IsRow .i64 w a0 len0 cap0 z0) (rr0 : cap0 * 8 ≤ 140737488351232) :
    Calls Try.prog 5 #[.slice a0 len0 cap0] w fun e w' => e = .returned (.bool true) ∧ Below w.heap.size w w' :=
  walk_of (once_ok len0 z0 (rng_of w0)) (relL1 (row_rel w0))
end Go.Proofs.Ytfaibcgakcmhcaa

