/- Texts of one's own in one file: Ms6, Ms3, Ms7, Mqc, Mqd, Mqe, Msp, Tb, Msq, Msr. -/
import Derived.Test.YtfaibcgakcmhcaaJMulticastSpreadsd
import Derived.Test.YtfaibcgakcmhcaaJMulticastSpreadsc
set_option linter.unusedVariables false
set_option linter.unusedSimpArgs false
set_option maxHeartbeats 16000000
set_option maxRecDepth 20000
namespace Go.Proofs.Ytfaibcgakcmhcaa.AX
open Go.RowKit
theorem st2_0 (M0 : List Sed) (now draw : Int) (hm : ∀ s ∈ M0, SdOk s) (h8 : M0.length <= 8) (hd : drawOk draw) (ht : 0 <= now /\ now <= 1099511627776) (s : StI M0 now draw) (hi : s.i = 0) (hil : s.i < M0.length) (K : Kt) :
 exec T (mkQ LMs) 1024 Try.f21.ntmps 0 (loopIn (dropC 5 (Try.f21.body.getD Code.ret))) (S2 M0 now draw s).fr (S2 M0 now draw s).H (S2 M0 now draw s).nx (seqK (fun fr H _ => Goes (S2 M0 now draw) (fun s => M0.length - s.i) 0 (M0.length - s.i) fr H) K) := by
 have hS : SdOk (M0.getD s.i default) := hm _ (getD_in hil)
 obtain ⟨s', es'⟩ : ∃ s', s.next hil hS.n = s' := ⟨_, rfl⟩
 have f1 : s'.M = s.M.set s.i { M0.getD s.i default with held := (runH (M0.getD s.i default).id now draw (M0.getD s.i default).held s.b).1 } := by rw [<- es']; rfl
 have f2 : s'.Z = s.Z ++ (runH (M0.getD s.i default).id now draw (M0.getD s.i default).held s.b).2 := by rw [<- es']; rfl
 have f3 : s'.b = s.b + (M0.getD s.i default).held.length := by rw [<- es']; rfl
 have f4 : s'.i = s.i + 1 := by rw [<- es']; rfl
 clear es'
 obtain ⟨i, M, Z, b, hn, hi0, hb, hz, h2, r1, r2⟩ := s
 dsimp only at hi hil hS f1 f2 f3 f4
 subst hi
 have hiM : 0 < M.length := by omega
 have e0 := h2 0 (Nat.le_refl _)
 rw [<- e0] at hS f1 f2 f3
 have hk := hS.n
 unfold S2
 dsimp only
 clear h2 r1 r2 e0
 repeat' (first | (apply And.intro <;> intro hc <;> (first | exact Bool.noConfusion hc | (exfalso; first | exact absurd rfl hc | omega) | (simp only [zb0, ne_eq, not_true_eq_false] at hc <;> first | exact absurd rfl hc | (exfalso; first | exact absurd rfl hc | omega) | skip) | skip)) | (refine And.intro zp1 ?_) | (apply And.intro) | (intro s hs; skip) | (refine Exists.intro _ (And.intro ⟨rfl, rfl, rfl⟩ ?_)))
 conv => whnf
 refine loop_intro (mono_of LMs_ok) (fun s : InI (M.getD 0 default).held (M.getD 0 default).id now draw b Z => (⟨[(1, one (.int .i64 now)), (2, one (.int .u32 draw)), (9, one (.os 1 0 M.length)), (14, one (.os 10 0 s.Z.length)), (15, one (.int .u32 ((b + s.k : Nat) : Int))), (65, one (.int .i64 (M0.length : Int))), (66, one (.int .i64 ((0 : Nat) : Int))), (16, one (.int .i64 ((0 : Nat) : Int))), (74, one (.int .i64 ((M.getD 0 default).held.length : Int))), (75, one (.int .i64 (s.k : Int)))], [(1, some (entP 2 M.length M)), (2, some (entH s.H)), (3, some (entH (M.getD 1 default).held)), (4, some (entH (M.getD 2 default).held)), (5, some (entH (M.getD 3 default).held)), (6, some (entH (M.getD 4 default).held)), (7, some (entH (M.getD 5 default).held)), (8, some (entH (M.getD 6 default).held)), (9, some (entH (M.getD 7 default).held)), (10, some (entN neC 32 s.Z))], 11⟩ : Hd)) (fun s => (M.getD 0 default).held.length - s.k) (fun _ => rfl) ?_ (InI.start _ _ _ _ _ _) [] ⟨rfl, ⟨leF_int rfl, leF_int rfl, leF_c (leC_os rfl rfl), leF_c (leC_os rfl rfl), leF_int rfl, leF_int rfl, leF_int rfl, leF_int rfl, leF_int rfl, leF_int rfl, trivial⟩, ⟨⟨rfl, leN_entP (by omega) (lt8 rfl rfl rfl rfl rfl rfl rfl rfl)⟩, ⟨rfl, leN_entN⟩, ⟨rfl, leN_entN⟩, ⟨rfl, leN_entN⟩, ⟨rfl, leN_entN⟩, ⟨rfl, leN_entN⟩, ⟨rfl, leN_entN⟩, ⟨rfl, leN_entN⟩, ⟨rfl, leN_entN⟩, ⟨rfl, leN_entN⟩, trivial⟩⟩
 intro s
 by_cases hkn : s.k < (M.getD 0 default).held.length
 . have w4 : IntKind.i64.wrap ((s.k : Int) + 1) = ((s.k + 1 : Nat) : Int) := (IntWalk.i64_in _ (by omega)).trans (by omega)
   have w5 : IntKind.u32.wrap (((b + s.k : Nat) : Int) + 1) = ((b + (s.k + 1) : Nat) : Int) := (IntWalk.u32_in _ (by omega)).trans (by omega)
   have z0 : 0 + (s.k : Int).toNat = s.k := Nat.zero_add s.k
   have eh := s.h2 s.k (Nat.le_refl _)
   have hl := s.n
   have hzz := s.hz
   have bk : Nat.beq s.k s.k = true := Nat.beq_refl _
   have hx := hels_ok hS (getD_in hkn)
   rw [<- eh] at hx
   have hxd := hx.d
   obtain ⟨T, eT⟩ : ∃ T, stepT (s.H.getD s.k default).tm now (IntKind.u32.wrap (draw + ((b + s.k : Nat) : Int))) = T := ⟨_, rfl⟩
   repeat' (first | (simp only [z0, w4, w5, bk, Bool.cond_true]) | (apply And.intro <;> intro hc <;> (first | exact Bool.noConfusion hc | (exfalso; first | exact absurd rfl hc | omega) | (simp only [zb0, ne_eq, not_true_eq_false] at hc <;> first | exact absurd rfl hc | (exfalso; first | exact absurd rfl hc | omega) | skip) | skip)) | (refine And.intro zp1 ?_) | (apply And.intro) | (intro s hs; (have q : T = s := eT.symm.trans hs.symm; clear hs; subst q)) | (refine Exists.intro _ (And.intro ⟨rfl, rfl, rfl⟩ ?_)))
   . exact hc
   . exact (u32ok _).1
   . exact (u32ok _).2
   . conv => whnf
     refine ⟨s.next hkn (s.H.set s.k { s.H.getD s.k default with tm := T.1 }) (s.Z ++ [⟨(M.getD 0 default).id, (s.H.getD s.k default).num, (s.H.getD s.k default).data⟩]) (by rw [<- eh, one_yes (by assumption) eT]) (by rw [<- eh, one_yes (by assumption) eT, if_pos hc]), [(10, some 59403)], by dsimp only [InI.next]; omega, rfl, ⟨leF_int rfl, leF_int rfl, leF_c (leC_os rfl rfl), leF_c (leC_os rfl (by show _ = (s.Z ++ [_]).length; rw [List.length_append]; rfl)), leF_int w5, leF_int rfl, leF_int rfl, leF_int rfl, leF_int rfl, leF_int w4, trivial⟩, ⟨⟨rfl, leN_entP (by omega) (lt8 rfl rfl rfl rfl rfl rfl rfl rfl)⟩, ⟨rfl, leN_oneH ?_⟩, ⟨rfl, leN_entN⟩, ⟨rfl, leN_entN⟩, ⟨rfl, leN_entN⟩, ⟨rfl, leN_entN⟩, ⟨rfl, leN_entN⟩, ⟨rfl, leN_entN⟩, ⟨rfl, leN_entN⟩, ⟨rfl, ?_⟩, trivial⟩⟩
     . exact hel_row2 (by rw [hl]; exact hkn) (lt8c ⟨leC_int rfl, leC_int rfl, leC_int rfl, leC_int rfl, leC_int rfl, leC_int rfl, leC_int rfl, leC_bool rfl⟩)
     . refine casts_snoc fun j hj => ?_
       rcases j with _ | _ | _ | j
       . exact leC_int rfl
       . exact leC_int rfl
       . refine leC_os_sl rfl rfl rfl rfl (Nat.le_of_eq (Nat.zero_add _)) fun q hq j hj => ?_
         show LeC _ (rowF eB (s.H.getD s.k default).data (0 + q) j) (rowF eB (s.H.getD s.k default).data q j)
         exact leC_int (congrArg (fun z => (s.H.getD s.k default).data.getD z default) (Nat.zero_add q))
       . omega
   . conv => whnf
     refine ⟨s.next hkn (s.H.set s.k { s.H.getD s.k default with tm := T.1 }) s.Z (by rw [<- eh, one_yes (by assumption) eT]) (by rw [<- eh, one_yes (by assumption) eT, if_neg (by rw [hc]; simp)]; exact List.append_nil _), [], by dsimp only [InI.next]; omega, rfl, ⟨leF_int rfl, leF_int rfl, leF_c (leC_os rfl rfl), leF_c (leC_os rfl rfl), leF_int w5, leF_int rfl, leF_int rfl, leF_int rfl, leF_int rfl, leF_int w4, trivial⟩, ⟨⟨rfl, leN_entP (by omega) (lt8 rfl rfl rfl rfl rfl rfl rfl rfl)⟩, ⟨rfl, leN_oneH ?_⟩, ⟨rfl, leN_entN⟩, ⟨rfl, leN_entN⟩, ⟨rfl, leN_entN⟩, ⟨rfl, leN_entN⟩, ⟨rfl, leN_entN⟩, ⟨rfl, leN_entN⟩, ⟨rfl, leN_entN⟩, ⟨rfl, leN_entN⟩, trivial⟩⟩
     exact hel_row2 (by rw [hl]; exact hkn) (lt8c ⟨leC_int rfl, leC_int rfl, leC_int rfl, leC_int rfl, leC_int rfl, leC_int rfl, leC_int rfl, leC_bool rfl⟩)
   . conv => whnf
     exact ⟨s.next hkn s.H s.Z (by rw [<- eh, one_no hc]; exact setH_self (by rw [hl]; exact hkn)) (by rw [<- eh, one_no hc]; exact List.append_nil _), [], by dsimp only [InI.next]; omega, rfl, ⟨leF_int rfl, leF_int rfl, leF_c (leC_os rfl rfl), leF_c (leC_os rfl rfl), leF_int w5, leF_int rfl, leF_int rfl, leF_int rfl, leF_int rfl, leF_int w4, trivial⟩, ⟨⟨rfl, leN_entP (by omega) (lt8 rfl rfl rfl rfl rfl rfl rfl rfl)⟩, ⟨rfl, leN_entN⟩, ⟨rfl, leN_entN⟩, ⟨rfl, leN_entN⟩, ⟨rfl, leN_entN⟩, ⟨rfl, leN_entN⟩, ⟨rfl, leN_entN⟩, ⟨rfl, leN_entN⟩, ⟨rfl, leN_entN⟩, ⟨rfl, leN_entN⟩, trivial⟩⟩
 . obtain ⟨l1, l2⟩ := s.last hkn
   have hkk := s.hk
   have w6 : IntKind.i64.wrap ((0 : Int) + 1) = ((0 + 1 : Nat) : Int) := rfl
   repeat' (first | (apply And.intro <;> intro hc <;> (first | exact Bool.noConfusion hc | (exfalso; first | exact absurd rfl hc | omega) | (simp only [zb0, ne_eq, not_true_eq_false] at hc <;> first | exact absurd rfl hc | (exfalso; first | exact absurd rfl hc | omega) | skip) | skip)) | (refine And.intro zp1 ?_) | (apply And.intro) | (intro s hs; skip) | (refine Exists.intro _ (And.intro ⟨rfl, rfl, rfl⟩ ?_)))
   conv => whnf
   refine ⟨s', [], by show M0.length - s'.i < _; rw [f4]; omega, rfl, ⟨leF_int rfl, leF_int rfl, leF_c (leC_os rfl (by rw [f1, List.length_set])), leF_c (leC_os rfl (by rw [f2, l2])), leF_int (by rw [f3]; omega), leF_int rfl, leF_int (by rw [f4]; rfl), trivial⟩, ⟨⟨rfl, ⟨rfl, by show _ = s'.M.length; rw [f1, List.length_set]; rfl, rfl, rfl, fun p hp j hj => ?_⟩⟩, ⟨rfl, leN_eqN (by rw [f1, set_at hiM]; exact l1)⟩, ⟨rfl, leN_eqN (by rw [f1]; exact congrArg Sed.held (set_ne (by decide)).symm)⟩, ⟨rfl, leN_eqN (by rw [f1]; exact congrArg Sed.held (set_ne (by decide)).symm)⟩, ⟨rfl, leN_eqN (by rw [f1]; exact congrArg Sed.held (set_ne (by decide)).symm)⟩, ⟨rfl, leN_eqN (by rw [f1]; exact congrArg Sed.held (set_ne (by decide)).symm)⟩, ⟨rfl, leN_eqN (by rw [f1]; exact congrArg Sed.held (set_ne (by decide)).symm)⟩, ⟨rfl, leN_eqN (by rw [f1]; exact congrArg Sed.held (set_ne (by decide)).symm)⟩, ⟨rfl, leN_eqN (by rw [f1]; exact congrArg Sed.held (set_ne (by decide)).symm)⟩, ⟨rfl, leN_eqZ (by rw [f2, l2])⟩, trivial⟩⟩
   have hp : p < M.length := hp
   have hj : j < 3 := hj
   show LeC _ (rowP 2 M p j) (rowP 2 s'.M p j)
   rw [f1]
   rcases (show p = 0 \/ p = 1 \/ p = 2 \/ p = 3 \/ p = 4 \/ p = 5 \/ p = 6 \/ p = 7 by omega) with rfl | rfl | rfl | rfl | rfl | rfl | rfl | rfl
   all_goals first
    | exact rowP_set_ne hj (by decide) rfl rfl
    | skip
   refine rowP_set_at hiM ?_
   rcases j with _ | _ | _ | j
   . exact leC_int rfl
   . exact leC_int rfl
   . exact leC_os rfl runH_len.symm
   . omega
theorem st2_1 (M0 : List Sed) (now draw : Int) (hm : ∀ s ∈ M0, SdOk s) (h8 : M0.length <= 8) (hd : drawOk draw) (ht : 0 <= now /\ now <= 1099511627776) (s : StI M0 now draw) (hi : s.i = 1) (hil : s.i < M0.length) (K : Kt) :
 exec T (mkQ LMs) 1024 Try.f21.ntmps 0 (loopIn (dropC 5 (Try.f21.body.getD Code.ret))) (S2 M0 now draw s).fr (S2 M0 now draw s).H (S2 M0 now draw s).nx (seqK (fun fr H _ => Goes (S2 M0 now draw) (fun s => M0.length - s.i) 0 (M0.length - s.i) fr H) K) := by
 have hS : SdOk (M0.getD s.i default) := hm _ (getD_in hil)
 obtain ⟨s', es'⟩ : ∃ s', s.next hil hS.n = s' := ⟨_, rfl⟩
 have f1 : s'.M = s.M.set s.i { M0.getD s.i default with held := (runH (M0.getD s.i default).id now draw (M0.getD s.i default).held s.b).1 } := by rw [<- es']; rfl
 have f2 : s'.Z = s.Z ++ (runH (M0.getD s.i default).id now draw (M0.getD s.i default).held s.b).2 := by rw [<- es']; rfl
 have f3 : s'.b = s.b + (M0.getD s.i default).held.length := by rw [<- es']; rfl
 have f4 : s'.i = s.i + 1 := by rw [<- es']; rfl
 clear es'
 obtain ⟨i, M, Z, b, hn, hi0, hb, hz, h2, r1, r2⟩ := s
 dsimp only at hi hil hS f1 f2 f3 f4
 subst hi
 have hiM : 1 < M.length := by omega
 have e0 := h2 1 (Nat.le_refl _)
 rw [<- e0] at hS f1 f2 f3
 have hk := hS.n
 unfold S2
 dsimp only
 clear h2 r1 r2 e0
 repeat' (first | (apply And.intro <;> intro hc <;> (first | exact Bool.noConfusion hc | (exfalso; first | exact absurd rfl hc | omega) | (simp only [zb0, ne_eq, not_true_eq_false] at hc <;> first | exact absurd rfl hc | (exfalso; first | exact absurd rfl hc | omega) | skip) | skip)) | (refine And.intro zp1 ?_) | (apply And.intro) | (intro s hs; skip) | (refine Exists.intro _ (And.intro ⟨rfl, rfl, rfl⟩ ?_)))
 conv => whnf
 refine loop_intro (mono_of LMs_ok) (fun s : InI (M.getD 1 default).held (M.getD 1 default).id now draw b Z => (⟨[(1, one (.int .i64 now)), (2, one (.int .u32 draw)), (9, one (.os 1 0 M.length)), (14, one (.os 10 0 s.Z.length)), (15, one (.int .u32 ((b + s.k : Nat) : Int))), (65, one (.int .i64 (M0.length : Int))), (66, one (.int .i64 ((1 : Nat) : Int))), (16, one (.int .i64 ((1 : Nat) : Int))), (74, one (.int .i64 ((M.getD 1 default).held.length : Int))), (75, one (.int .i64 (s.k : Int)))], [(1, some (entP 2 M.length M)), (2, some (entH (M.getD 0 default).held)), (3, some (entH s.H)), (4, some (entH (M.getD 2 default).held)), (5, some (entH (M.getD 3 default).held)), (6, some (entH (M.getD 4 default).held)), (7, some (entH (M.getD 5 default).held)), (8, some (entH (M.getD 6 default).held)), (9, some (entH (M.getD 7 default).held)), (10, some (entN neC 32 s.Z))], 11⟩ : Hd)) (fun s => (M.getD 1 default).held.length - s.k) (fun _ => rfl) ?_ (InI.start _ _ _ _ _ _) [] ⟨rfl, ⟨leF_int rfl, leF_int rfl, leF_c (leC_os rfl rfl), leF_c (leC_os rfl rfl), leF_int rfl, leF_int rfl, leF_int rfl, leF_int rfl, leF_int rfl, leF_int rfl, trivial⟩, ⟨⟨rfl, leN_entP (by omega) (lt8 rfl rfl rfl rfl rfl rfl rfl rfl)⟩, ⟨rfl, leN_entN⟩, ⟨rfl, leN_entN⟩, ⟨rfl, leN_entN⟩, ⟨rfl, leN_entN⟩, ⟨rfl, leN_entN⟩, ⟨rfl, leN_entN⟩, ⟨rfl, leN_entN⟩, ⟨rfl, leN_entN⟩, ⟨rfl, leN_entN⟩, trivial⟩⟩
 intro s
 by_cases hkn : s.k < (M.getD 1 default).held.length
 . have w4 : IntKind.i64.wrap ((s.k : Int) + 1) = ((s.k + 1 : Nat) : Int) := (IntWalk.i64_in _ (by omega)).trans (by omega)
   have w5 : IntKind.u32.wrap (((b + s.k : Nat) : Int) + 1) = ((b + (s.k + 1) : Nat) : Int) := (IntWalk.u32_in _ (by omega)).trans (by omega)
   have z0 : 0 + (s.k : Int).toNat = s.k := Nat.zero_add s.k
   have eh := s.h2 s.k (Nat.le_refl _)
   have hl := s.n
   have hzz := s.hz
   have bk : Nat.beq s.k s.k = true := Nat.beq_refl _
   have hx := hels_ok hS (getD_in hkn)
   rw [<- eh] at hx
   have hxd := hx.d
   obtain ⟨T, eT⟩ : ∃ T, stepT (s.H.getD s.k default).tm now (IntKind.u32.wrap (draw + ((b + s.k : Nat) : Int))) = T := ⟨_, rfl⟩
   repeat' (first | (simp only [z0, w4, w5, bk, Bool.cond_true]) | (apply And.intro <;> intro hc <;> (first | exact Bool.noConfusion hc | (exfalso; first | exact absurd rfl hc | omega) | (simp only [zb0, ne_eq, not_true_eq_false] at hc <;> first | exact absurd rfl hc | (exfalso; first | exact absurd rfl hc | omega) | skip) | skip)) | (refine And.intro zp1 ?_) | (apply And.intro) | (intro s hs; (have q : T = s := eT.symm.trans hs.symm; clear hs; subst q)) | (refine Exists.intro _ (And.intro ⟨rfl, rfl, rfl⟩ ?_)))
   . exact hc
   . exact (u32ok _).1
   . exact (u32ok _).2
   . conv => whnf
     refine ⟨s.next hkn (s.H.set s.k { s.H.getD s.k default with tm := T.1 }) (s.Z ++ [⟨(M.getD 1 default).id, (s.H.getD s.k default).num, (s.H.getD s.k default).data⟩]) (by rw [<- eh, one_yes (by assumption) eT]) (by rw [<- eh, one_yes (by assumption) eT, if_pos hc]), [(10, some 59403)], by dsimp only [InI.next]; omega, rfl, ⟨leF_int rfl, leF_int rfl, leF_c (leC_os rfl rfl), leF_c (leC_os rfl (by show _ = (s.Z ++ [_]).length; rw [List.length_append]; rfl)), leF_int w5, leF_int rfl, leF_int rfl, leF_int rfl, leF_int rfl, leF_int w4, trivial⟩, ⟨⟨rfl, leN_entP (by omega) (lt8 rfl rfl rfl rfl rfl rfl rfl rfl)⟩, ⟨rfl, leN_entN⟩, ⟨rfl, leN_oneH ?_⟩, ⟨rfl, leN_entN⟩, ⟨rfl, leN_entN⟩, ⟨rfl, leN_entN⟩, ⟨rfl, leN_entN⟩, ⟨rfl, leN_entN⟩, ⟨rfl, leN_entN⟩, ⟨rfl, ?_⟩, trivial⟩⟩
     . exact hel_row2 (by rw [hl]; exact hkn) (lt8c ⟨leC_int rfl, leC_int rfl, leC_int rfl, leC_int rfl, leC_int rfl, leC_int rfl, leC_int rfl, leC_bool rfl⟩)
     . refine casts_snoc fun j hj => ?_
       rcases j with _ | _ | _ | j
       . exact leC_int rfl
       . exact leC_int rfl
       . refine leC_os_sl rfl rfl rfl rfl (Nat.le_of_eq (Nat.zero_add _)) fun q hq j hj => ?_
         show LeC _ (rowF eB (s.H.getD s.k default).data (0 + q) j) (rowF eB (s.H.getD s.k default).data q j)
         exact leC_int (congrArg (fun z => (s.H.getD s.k default).data.getD z default) (Nat.zero_add q))
       . omega
   . conv => whnf
     refine ⟨s.next hkn (s.H.set s.k { s.H.getD s.k default with tm := T.1 }) s.Z (by rw [<- eh, one_yes (by assumption) eT]) (by rw [<- eh, one_yes (by assumption) eT, if_neg (by rw [hc]; simp)]; exact List.append_nil _), [], by dsimp only [InI.next]; omega, rfl, ⟨leF_int rfl, leF_int rfl, leF_c (leC_os rfl rfl), leF_c (leC_os rfl rfl), leF_int w5, leF_int rfl, leF_int rfl, leF_int rfl, leF_int rfl, leF_int w4, trivial⟩, ⟨⟨rfl, leN_entP (by omega) (lt8 rfl rfl rfl rfl rfl rfl rfl rfl)⟩, ⟨rfl, leN_entN⟩, ⟨rfl, leN_oneH ?_⟩, ⟨rfl, leN_entN⟩, ⟨rfl, leN_entN⟩, ⟨rfl, leN_entN⟩, ⟨rfl, leN_entN⟩, ⟨rfl, leN_entN⟩, ⟨rfl, leN_entN⟩, ⟨rfl, leN_entN⟩, trivial⟩⟩
     exact hel_row2 (by rw [hl]; exact hkn) (lt8c ⟨leC_int rfl, leC_int rfl, leC_int rfl, leC_int rfl, leC_int rfl, leC_int rfl, leC_int rfl, leC_bool rfl⟩)
   . conv => whnf
     exact ⟨s.next hkn s.H s.Z (by rw [<- eh, one_no hc]; exact setH_self (by rw [hl]; exact hkn)) (by rw [<- eh, one_no hc]; exact List.append_nil _), [], by dsimp only [InI.next]; omega, rfl, ⟨leF_int rfl, leF_int rfl, leF_c (leC_os rfl rfl), leF_c (leC_os rfl rfl), leF_int w5, leF_int rfl, leF_int rfl, leF_int rfl, leF_int rfl, leF_int w4, trivial⟩, ⟨⟨rfl, leN_entP (by omega) (lt8 rfl rfl rfl rfl rfl rfl rfl rfl)⟩, ⟨rfl, leN_entN⟩, ⟨rfl, leN_entN⟩, ⟨rfl, leN_entN⟩, ⟨rfl, leN_entN⟩, ⟨rfl, leN_entN⟩, ⟨rfl, leN_entN⟩, ⟨rfl, leN_entN⟩, ⟨rfl, leN_entN⟩, ⟨rfl, leN_entN⟩, trivial⟩⟩
 . obtain ⟨l1, l2⟩ := s.last hkn
   have hkk := s.hk
   have w6 : IntKind.i64.wrap ((1 : Int) + 1) = ((1 + 1 : Nat) : Int) := rfl
   repeat' (first | (apply And.intro <;> intro hc <;> (first | exact Bool.noConfusion hc | (exfalso; first | exact absurd rfl hc | omega) | (simp only [zb0, ne_eq, not_true_eq_false] at hc <;> first | exact absurd rfl hc | (exfalso; first | exact absurd rfl hc | omega) | skip) | skip)) | (refine And.intro zp1 ?_) | (apply And.intro) | (intro s hs; skip) | (refine Exists.intro _ (And.intro ⟨rfl, rfl, rfl⟩ ?_)))
   conv => whnf
   refine ⟨s', [], by show M0.length - s'.i < _; rw [f4]; omega, rfl, ⟨leF_int rfl, leF_int rfl, leF_c (leC_os rfl (by rw [f1, List.length_set])), leF_c (leC_os rfl (by rw [f2, l2])), leF_int (by rw [f3]; omega), leF_int rfl, leF_int (by rw [f4]; rfl), trivial⟩, ⟨⟨rfl, ⟨rfl, by show _ = s'.M.length; rw [f1, List.length_set]; rfl, rfl, rfl, fun p hp j hj => ?_⟩⟩, ⟨rfl, leN_eqN (by rw [f1]; exact congrArg Sed.held (set_ne (by decide)).symm)⟩, ⟨rfl, leN_eqN (by rw [f1, set_at hiM]; exact l1)⟩, ⟨rfl, leN_eqN (by rw [f1]; exact congrArg Sed.held (set_ne (by decide)).symm)⟩, ⟨rfl, leN_eqN (by rw [f1]; exact congrArg Sed.held (set_ne (by decide)).symm)⟩, ⟨rfl, leN_eqN (by rw [f1]; exact congrArg Sed.held (set_ne (by decide)).symm)⟩, ⟨rfl, leN_eqN (by rw [f1]; exact congrArg Sed.held (set_ne (by decide)).symm)⟩, ⟨rfl, leN_eqN (by rw [f1]; exact congrArg Sed.held (set_ne (by decide)).symm)⟩, ⟨rfl, leN_eqN (by rw [f1]; exact congrArg Sed.held (set_ne (by decide)).symm)⟩, ⟨rfl, leN_eqZ (by rw [f2, l2])⟩, trivial⟩⟩
   have hp : p < M.length := hp
   have hj : j < 3 := hj
   show LeC _ (rowP 2 M p j) (rowP 2 s'.M p j)
   rw [f1]
   rcases (show p = 0 \/ p = 1 \/ p = 2 \/ p = 3 \/ p = 4 \/ p = 5 \/ p = 6 \/ p = 7 by omega) with rfl | rfl | rfl | rfl | rfl | rfl | rfl | rfl
   all_goals first
    | exact rowP_set_ne hj (by decide) rfl rfl
    | skip
   refine rowP_set_at hiM ?_
   rcases j with _ | _ | _ | j
   . exact leC_int rfl
   . exact leC_int rfl
   . exact leC_os rfl runH_len.symm
   . omega
theorem st2_2 (M0 : List Sed) (now draw : Int) (hm : ∀ s ∈ M0, SdOk s) (h8 : M0.length <= 8) (hd : drawOk draw) (ht : 0 <= now /\ now <= 1099511627776) (s : StI M0 now draw) (hi : s.i = 2) (hil : s.i < M0.length) (K : Kt) :
 exec T (mkQ LMs) 1024 Try.f21.ntmps 0 (loopIn (dropC 5 (Try.f21.body.getD Code.ret))) (S2 M0 now draw s).fr (S2 M0 now draw s).H (S2 M0 now draw s).nx (seqK (fun fr H _ => Goes (S2 M0 now draw) (fun s => M0.length - s.i) 0 (M0.length - s.i) fr H) K) := by
 have hS : SdOk (M0.getD s.i default) := hm _ (getD_in hil)
 obtain ⟨s', es'⟩ : ∃ s', s.next hil hS.n = s' := ⟨_, rfl⟩
 have f1 : s'.M = s.M.set s.i { M0.getD s.i default with held := (runH (M0.getD s.i default).id now draw (M0.getD s.i default).held s.b).1 } := by rw [<- es']; rfl
 have f2 : s'.Z = s.Z ++ (runH (M0.getD s.i default).id now draw (M0.getD s.i default).held s.b).2 := by rw [<- es']; rfl
 have f3 : s'.b = s.b + (M0.getD s.i default).held.length := by rw [<- es']; rfl
 have f4 : s'.i = s.i + 1 := by rw [<- es']; rfl
 clear es'
 obtain ⟨i, M, Z, b, hn, hi0, hb, hz, h2, r1, r2⟩ := s
 dsimp only at hi hil hS f1 f2 f3 f4
 subst hi
 have hiM : 2 < M.length := by omega
 have e0 := h2 2 (Nat.le_refl _)
 rw [<- e0] at hS f1 f2 f3
 have hk := hS.n
 unfold S2
 dsimp only
 clear h2 r1 r2 e0
 repeat' (first | (apply And.intro <;> intro hc <;> (first | exact Bool.noConfusion hc | (exfalso; first | exact absurd rfl hc | omega) | (simp only [zb0, ne_eq, not_true_eq_false] at hc <;> first | exact absurd rfl hc | (exfalso; first | exact absurd rfl hc | omega) | skip) | skip)) | (refine And.intro zp1 ?_) | (apply And.intro) | (intro s hs; skip) | (refine Exists.intro _ (And.intro ⟨rfl, rfl, rfl⟩ ?_)))
 conv => whnf
 refine loop_intro (mono_of LMs_ok) (fun s : InI (M.getD 2 default).held (M.getD 2 default).id now draw b Z => (⟨[(1, one (.int .i64 now)), (2, one (.int .u32 draw)), (9, one (.os 1 0 M.length)), (14, one (.os 10 0 s.Z.length)), (15, one (.int .u32 ((b + s.k : Nat) : Int))), (65, one (.int .i64 (M0.length : Int))), (66, one (.int .i64 ((2 : Nat) : Int))), (16, one (.int .i64 ((2 : Nat) : Int))), (74, one (.int .i64 ((M.getD 2 default).held.length : Int))), (75, one (.int .i64 (s.k : Int)))], [(1, some (entP 2 M.length M)), (2, some (entH (M.getD 0 default).held)), (3, some (entH (M.getD 1 default).held)), (4, some (entH s.H)), (5, some (entH (M.getD 3 default).held)), (6, some (entH (M.getD 4 default).held)), (7, some (entH (M.getD 5 default).held)), (8, some (entH (M.getD 6 default).held)), (9, some (entH (M.getD 7 default).held)), (10, some (entN neC 32 s.Z))], 11⟩ : Hd)) (fun s => (M.getD 2 default).held.length - s.k) (fun _ => rfl) ?_ (InI.start _ _ _ _ _ _) [] ⟨rfl, ⟨leF_int rfl, leF_int rfl, leF_c (leC_os rfl rfl), leF_c (leC_os rfl rfl), leF_int rfl, leF_int rfl, leF_int rfl, leF_int rfl, leF_int rfl, leF_int rfl, trivial⟩, ⟨⟨rfl, leN_entP (by omega) (lt8 rfl rfl rfl rfl rfl rfl rfl rfl)⟩, ⟨rfl, leN_entN⟩, ⟨rfl, leN_entN⟩, ⟨rfl, leN_entN⟩, ⟨rfl, leN_entN⟩, ⟨rfl, leN_entN⟩, ⟨rfl, leN_entN⟩, ⟨rfl, leN_entN⟩, ⟨rfl, leN_entN⟩, ⟨rfl, leN_entN⟩, trivial⟩⟩
 intro s
 by_cases hkn : s.k < (M.getD 2 default).held.length
 . have w4 : IntKind.i64.wrap ((s.k : Int) + 1) = ((s.k + 1 : Nat) : Int) := (IntWalk.i64_in _ (by omega)).trans (by omega)
   have w5 : IntKind.u32.wrap (((b + s.k : Nat) : Int) + 1) = ((b + (s.k + 1) : Nat) : Int) := (IntWalk.u32_in _ (by omega)).trans (by omega)
   have z0 : 0 + (s.k : Int).toNat = s.k := Nat.zero_add s.k
   have eh := s.h2 s.k (Nat.le_refl _)
   have hl := s.n
   have hzz := s.hz
   have bk : Nat.beq s.k s.k = true := Nat.beq_refl _
   have hx := hels_ok hS (getD_in hkn)
   rw [<- eh] at hx
   have hxd := hx.d
   obtain ⟨T, eT⟩ : ∃ T, stepT (s.H.getD s.k default).tm now (IntKind.u32.wrap (draw + ((b + s.k : Nat) : Int))) = T := ⟨_, rfl⟩
   repeat' (first | (simp only [z0, w4, w5, bk, Bool.cond_true]) | (apply And.intro <;> intro hc <;> (first | exact Bool.noConfusion hc | (exfalso; first | exact absurd rfl hc | omega) | (simp only [zb0, ne_eq, not_true_eq_false] at hc <;> first | exact absurd rfl hc | (exfalso; first | exact absurd rfl hc | omega) | skip) | skip)) | (refine And.intro zp1 ?_) | (apply And.intro) | (intro s hs; (have q : T = s := eT.symm.trans hs.symm; clear hs; subst q)) | (refine Exists.intro _ (And.intro ⟨rfl, rfl, rfl⟩ ?_)))
   . exact hc
   . exact (u32ok _).1
   . exact (u32ok _).2
   . conv => whnf
     refine ⟨s.next hkn (s.H.set s.k { s.H.getD s.k default with tm := T.1 }) (s.Z ++ [⟨(M.getD 2 default).id, (s.H.getD s.k default).num, (s.H.getD s.k default).data⟩]) (by rw [<- eh, one_yes (by assumption) eT]) (by rw [<- eh, one_yes (by assumption) eT, if_pos hc]), [(10, some 59403)], by dsimp only [InI.next]; omega, rfl, ⟨leF_int rfl, leF_int rfl, leF_c (leC_os rfl rfl), leF_c (leC_os rfl (by show _ = (s.Z ++ [_]).length; rw [List.length_append]; rfl)), leF_int w5, leF_int rfl, leF_int rfl, leF_int rfl, leF_int rfl, leF_int w4, trivial⟩, ⟨⟨rfl, leN_entP (by omega) (lt8 rfl rfl rfl rfl rfl rfl rfl rfl)⟩, ⟨rfl, leN_entN⟩, ⟨rfl, leN_entN⟩, ⟨rfl, leN_oneH ?_⟩, ⟨rfl, leN_entN⟩, ⟨rfl, leN_entN⟩, ⟨rfl, leN_entN⟩, ⟨rfl, leN_entN⟩, ⟨rfl, leN_entN⟩, ⟨rfl, ?_⟩, trivial⟩⟩
     . exact hel_row2 (by rw [hl]; exact hkn) (lt8c ⟨leC_int rfl, leC_int rfl, leC_int rfl, leC_int rfl, leC_int rfl, leC_int rfl, leC_int rfl, leC_bool rfl⟩)
     . refine casts_snoc fun j hj => ?_
       rcases j with _ | _ | _ | j
       . exact leC_int rfl
       . exact leC_int rfl
       . refine leC_os_sl rfl rfl rfl rfl (Nat.le_of_eq (Nat.zero_add _)) fun q hq j hj => ?_
         show LeC _ (rowF eB (s.H.getD s.k default).data (0 + q) j) (rowF eB (s.H.getD s.k default).data q j)
         exact leC_int (congrArg (fun z => (s.H.getD s.k default).data.getD z default) (Nat.zero_add q))
       . omega
   . conv => whnf
     refine ⟨s.next hkn (s.H.set s.k { s.H.getD s.k default with tm := T.1 }) s.Z (by rw [<- eh, one_yes (by assumption) eT]) (by rw [<- eh, one_yes (by assumption) eT, if_neg (by rw [hc]; simp)]; exact List.append_nil _), [], by dsimp only [InI.next]; omega, rfl, ⟨leF_int rfl, leF_int rfl, leF_c (leC_os rfl rfl), leF_c (leC_os rfl rfl), leF_int w5, leF_int rfl, leF_int rfl, leF_int rfl, leF_int rfl, leF_int w4, trivial⟩, ⟨⟨rfl, leN_entP (by omega) (lt8 rfl rfl rfl rfl rfl rfl rfl rfl)⟩, ⟨rfl, leN_entN⟩, ⟨rfl, leN_entN⟩, ⟨rfl, leN_oneH ?_⟩, ⟨rfl, leN_entN⟩, ⟨rfl, leN_entN⟩, ⟨rfl, leN_entN⟩, ⟨rfl, leN_entN⟩, ⟨rfl, leN_entN⟩, ⟨rfl, leN_entN⟩, trivial⟩⟩
     exact hel_row2 (by rw [hl]; exact hkn) (lt8c ⟨leC_int rfl, leC_int rfl, leC_int rfl, leC_int rfl, leC_int rfl, leC_int rfl, leC_int rfl, leC_bool rfl⟩)
   . conv => whnf
     exact ⟨s.next hkn s.H s.Z (by rw [<- eh, one_no hc]; exact setH_self (by rw [hl]; exact hkn)) (by rw [<- eh, one_no hc]; exact List.append_nil _), [], by dsimp only [InI.next]; omega, rfl, ⟨leF_int rfl, leF_int rfl, leF_c (leC_os rfl rfl), leF_c (leC_os rfl rfl), leF_int w5, leF_int rfl, leF_int rfl, leF_int rfl, leF_int rfl, leF_int w4, trivial⟩, ⟨⟨rfl, leN_entP (by omega) (lt8 rfl rfl rfl rfl rfl rfl rfl rfl)⟩, ⟨rfl, leN_entN⟩, ⟨rfl, leN_entN⟩, ⟨rfl, leN_entN⟩, ⟨rfl, leN_entN⟩, ⟨rfl, leN_entN⟩, ⟨rfl, leN_entN⟩, ⟨rfl, leN_entN⟩, ⟨rfl, leN_entN⟩, ⟨rfl, leN_entN⟩, trivial⟩⟩
 . obtain ⟨l1, l2⟩ := s.last hkn
   have hkk := s.hk
   have w6 : IntKind.i64.wrap ((2 : Int) + 1) = ((2 + 1 : Nat) : Int) := rfl
   repeat' (first | (apply And.intro <;> intro hc <;> (first | exact Bool.noConfusion hc | (exfalso; first | exact absurd rfl hc | omega) | (simp only [zb0, ne_eq, not_true_eq_false] at hc <;> first | exact absurd rfl hc | (exfalso; first | exact absurd rfl hc | omega) | skip) | skip)) | (refine And.intro zp1 ?_) | (apply And.intro) | (intro s hs; skip) | (refine Exists.intro _ (And.intro ⟨rfl, rfl, rfl⟩ ?_)))
   conv => whnf
   refine ⟨s', [], by show M0.length - s'.i < _; rw [f4]; omega, rfl, ⟨leF_int rfl, leF_int rfl, leF_c (leC_os rfl (by rw [f1, List.length_set])), leF_c (leC_os rfl (by rw [f2, l2])), leF_int (by rw [f3]; omega), leF_int rfl, leF_int (by rw [f4]; rfl), trivial⟩, ⟨⟨rfl, ⟨rfl, by show _ = s'.M.length; rw [f1, List.length_set]; rfl, rfl, rfl, fun p hp j hj => ?_⟩⟩, ⟨rfl, leN_eqN (by rw [f1]; exact congrArg Sed.held (set_ne (by decide)).symm)⟩, ⟨rfl, leN_eqN (by rw [f1]; exact congrArg Sed.held (set_ne (by decide)).symm)⟩, ⟨rfl, leN_eqN (by rw [f1, set_at hiM]; exact l1)⟩, ⟨rfl, leN_eqN (by rw [f1]; exact congrArg Sed.held (set_ne (by decide)).symm)⟩, ⟨rfl, leN_eqN (by rw [f1]; exact congrArg Sed.held (set_ne (by decide)).symm)⟩, ⟨rfl, leN_eqN (by rw [f1]; exact congrArg Sed.held (set_ne (by decide)).symm)⟩, ⟨rfl, leN_eqN (by rw [f1]; exact congrArg Sed.held (set_ne (by decide)).symm)⟩, ⟨rfl, leN_eqN (by rw [f1]; exact congrArg Sed.held (set_ne (by decide)).symm)⟩, ⟨rfl, leN_eqZ (by rw [f2, l2])⟩, trivial⟩⟩
   have hp : p < M.length := hp
   have hj : j < 3 := hj
   show LeC _ (rowP 2 M p j) (rowP 2 s'.M p j)
   rw [f1]
   rcases (show p = 0 \/ p = 1 \/ p = 2 \/ p = 3 \/ p = 4 \/ p = 5 \/ p = 6 \/ p = 7 by omega) with rfl | rfl | rfl | rfl | rfl | rfl | rfl | rfl
   all_goals first
    | exact rowP_set_ne hj (by decide) rfl rfl
    | skip
   refine rowP_set_at hiM ?_
   rcases j with _ | _ | _ | j
   . exact leC_int rfl
   . exact leC_int rfl
   . exact leC_os rfl runH_len.symm
   . omega
theorem st2_3 (M0 : List Sed) (now draw : Int) (hm : ∀ s ∈ M0, SdOk s) (h8 : M0.length <= 8) (hd : drawOk draw) (ht : 0 <= now /\ now <= 1099511627776) (s : StI M0 now draw) (hi : s.i = 3) (hil : s.i < M0.length) (K : Kt) :
 exec T (mkQ LMs) 1024 Try.f21.ntmps 0 (loopIn (dropC 5 (Try.f21.body.getD Code.ret))) (S2 M0 now draw s).fr (S2 M0 now draw s).H (S2 M0 now draw s).nx (seqK (fun fr H _ => Goes (S2 M0 now draw) (fun s => M0.length - s.i) 0 (M0.length - s.i) fr H) K) := by
 have hS : SdOk (M0.getD s.i default) := hm _ (getD_in hil)
 obtain ⟨s', es'⟩ : ∃ s', s.next hil hS.n = s' := ⟨_, rfl⟩
 have f1 : s'.M = s.M.set s.i { M0.getD s.i default with held := (runH (M0.getD s.i default).id now draw (M0.getD s.i default).held s.b).1 } := by rw [<- es']; rfl
 have f2 : s'.Z = s.Z ++ (runH (M0.getD s.i default).id now draw (M0.getD s.i default).held s.b).2 := by rw [<- es']; rfl
 have f3 : s'.b = s.b + (M0.getD s.i default).held.length := by rw [<- es']; rfl
 have f4 : s'.i = s.i + 1 := by rw [<- es']; rfl
 clear es'
 obtain ⟨i, M, Z, b, hn, hi0, hb, hz, h2, r1, r2⟩ := s
 dsimp only at hi hil hS f1 f2 f3 f4
 subst hi
 have hiM : 3 < M.length := by omega
 have e0 := h2 3 (Nat.le_refl _)
 rw [<- e0] at hS f1 f2 f3
 have hk := hS.n
 unfold S2
 dsimp only
 clear h2 r1 r2 e0
 repeat' (first | (apply And.intro <;> intro hc <;> (first | exact Bool.noConfusion hc | (exfalso; first | exact absurd rfl hc | omega) | (simp only [zb0, ne_eq, not_true_eq_false] at hc <;> first | exact absurd rfl hc | (exfalso; first | exact absurd rfl hc | omega) | skip) | skip)) | (refine And.intro zp1 ?_) | (apply And.intro) | (intro s hs; skip) | (refine Exists.intro _ (And.intro ⟨rfl, rfl, rfl⟩ ?_)))
 conv => whnf
 refine loop_intro (mono_of LMs_ok) (fun s : InI (M.getD 3 default).held (M.getD 3 default).id now draw b Z => (⟨[(1, one (.int .i64 now)), (2, one (.int .u32 draw)), (9, one (.os 1 0 M.length)), (14, one (.os 10 0 s.Z.length)), (15, one (.int .u32 ((b + s.k : Nat) : Int))), (65, one (.int .i64 (M0.length : Int))), (66, one (.int .i64 ((3 : Nat) : Int))), (16, one (.int .i64 ((3 : Nat) : Int))), (74, one (.int .i64 ((M.getD 3 default).held.length : Int))), (75, one (.int .i64 (s.k : Int)))], [(1, some (entP 2 M.length M)), (2, some (entH (M.getD 0 default).held)), (3, some (entH (M.getD 1 default).held)), (4, some (entH (M.getD 2 default).held)), (5, some (entH s.H)), (6, some (entH (M.getD 4 default).held)), (7, some (entH (M.getD 5 default).held)), (8, some (entH (M.getD 6 default).held)), (9, some (entH (M.getD 7 default).held)), (10, some (entN neC 32 s.Z))], 11⟩ : Hd)) (fun s => (M.getD 3 default).held.length - s.k) (fun _ => rfl) ?_ (InI.start _ _ _ _ _ _) [] ⟨rfl, ⟨leF_int rfl, leF_int rfl, leF_c (leC_os rfl rfl), leF_c (leC_os rfl rfl), leF_int rfl, leF_int rfl, leF_int rfl, leF_int rfl, leF_int rfl, leF_int rfl, trivial⟩, ⟨⟨rfl, leN_entP (by omega) (lt8 rfl rfl rfl rfl rfl rfl rfl rfl)⟩, ⟨rfl, leN_entN⟩, ⟨rfl, leN_entN⟩, ⟨rfl, leN_entN⟩, ⟨rfl, leN_entN⟩, ⟨rfl, leN_entN⟩, ⟨rfl, leN_entN⟩, ⟨rfl, leN_entN⟩, ⟨rfl, leN_entN⟩, ⟨rfl, leN_entN⟩, trivial⟩⟩
 intro s
 by_cases hkn : s.k < (M.getD 3 default).held.length
 . have w4 : IntKind.i64.wrap ((s.k : Int) + 1) = ((s.k + 1 : Nat) : Int) := (IntWalk.i64_in _ (by omega)).trans (by omega)
   have w5 : IntKind.u32.wrap (((b + s.k : Nat) : Int) + 1) = ((b + (s.k + 1) : Nat) : Int) := (IntWalk.u32_in _ (by omega)).trans (by omega)
   have z0 : 0 + (s.k : Int).toNat = s.k := Nat.zero_add s.k
   have eh := s.h2 s.k (Nat.le_refl _)
   have hl := s.n
   have hzz := s.hz
   have bk : Nat.beq s.k s.k = true := Nat.beq_refl _
   have hx := hels_ok hS (getD_in hkn)
   rw [<- eh] at hx
   have hxd := hx.d
   obtain ⟨T, eT⟩ : ∃ T, stepT (s.H.getD s.k default).tm now (IntKind.u32.wrap (draw + ((b + s.k : Nat) : Int))) = T := ⟨_, rfl⟩
   repeat' (first | (simp only [z0, w4, w5, bk, Bool.cond_true]) | (apply And.intro <;> intro hc <;> (first | exact Bool.noConfusion hc | (exfalso; first | exact absurd rfl hc | omega) | (simp only [zb0, ne_eq, not_true_eq_false] at hc <;> first | exact absurd rfl hc | (exfalso; first | exact absurd rfl hc | omega) | skip) | skip)) | (refine And.intro zp1 ?_) | (apply And.intro) | (intro s hs; (have q : T = s := eT.symm.trans hs.symm; clear hs; subst q)) | (refine Exists.intro _ (And.intro ⟨rfl, rfl, rfl⟩ ?_)))
   . exact hc
   . exact (u32ok _).1
   . exact (u32ok _).2
   . conv => whnf
     refine ⟨s.next hkn (s.H.set s.k { s.H.getD s.k default with tm := T.1 }) (s.Z ++ [⟨(M.getD 3 default).id, (s.H.getD s.k default).num, (s.H.getD s.k default).data⟩]) (by rw [<- eh, one_yes (by assumption) eT]) (by rw [<- eh, one_yes (by assumption) eT, if_pos hc]), [(10, some 59403)], by dsimp only [InI.next]; omega, rfl, ⟨leF_int rfl, leF_int rfl, leF_c (leC_os rfl rfl), leF_c (leC_os rfl (by show _ = (s.Z ++ [_]).length; rw [List.length_append]; rfl)), leF_int w5, leF_int rfl, leF_int rfl, leF_int rfl, leF_int rfl, leF_int w4, trivial⟩, ⟨⟨rfl, leN_entP (by omega) (lt8 rfl rfl rfl rfl rfl rfl rfl rfl)⟩, ⟨rfl, leN_entN⟩, ⟨rfl, leN_entN⟩, ⟨rfl, leN_entN⟩, ⟨rfl, leN_oneH ?_⟩, ⟨rfl, leN_entN⟩, ⟨rfl, leN_entN⟩, ⟨rfl, leN_entN⟩, ⟨rfl, leN_entN⟩, ⟨rfl, ?_⟩, trivial⟩⟩
     . exact hel_row2 (by rw [hl]; exact hkn) (lt8c ⟨leC_int rfl, leC_int rfl, leC_int rfl, leC_int rfl, leC_int rfl, leC_int rfl, leC_int rfl, leC_bool rfl⟩)
     . refine casts_snoc fun j hj => ?_
       rcases j with _ | _ | _ | j
       . exact leC_int rfl
       . exact leC_int rfl
       . refine leC_os_sl rfl rfl rfl rfl (Nat.le_of_eq (Nat.zero_add _)) fun q hq j hj => ?_
         show LeC _ (rowF eB (s.H.getD s.k default).data (0 + q) j) (rowF eB (s.H.getD s.k default).data q j)
         exact leC_int (congrArg (fun z => (s.H.getD s.k default).data.getD z default) (Nat.zero_add q))
       . omega
   . conv => whnf
     refine ⟨s.next hkn (s.H.set s.k { s.H.getD s.k default with tm := T.1 }) s.Z (by rw [<- eh, one_yes (by assumption) eT]) (by rw [<- eh, one_yes (by assumption) eT, if_neg (by rw [hc]; simp)]; exact List.append_nil _), [], by dsimp only [InI.next]; omega, rfl, ⟨leF_int rfl, leF_int rfl, leF_c (leC_os rfl rfl), leF_c (leC_os rfl rfl), leF_int w5, leF_int rfl, leF_int rfl, leF_int rfl, leF_int rfl, leF_int w4, trivial⟩, ⟨⟨rfl, leN_entP (by omega) (lt8 rfl rfl rfl rfl rfl rfl rfl rfl)⟩, ⟨rfl, leN_entN⟩, ⟨rfl, leN_entN⟩, ⟨rfl, leN_entN⟩, ⟨rfl, leN_oneH ?_⟩, ⟨rfl, leN_entN⟩, ⟨rfl, leN_entN⟩, ⟨rfl, leN_entN⟩, ⟨rfl, leN_entN⟩, ⟨rfl, leN_entN⟩, trivial⟩⟩
     exact hel_row2 (by rw [hl]; exact hkn) (lt8c ⟨leC_int rfl, leC_int rfl, leC_int rfl, leC_int rfl, leC_int rfl, leC_int rfl, leC_int rfl, leC_bool rfl⟩)
   . conv => whnf
     exact ⟨s.next hkn s.H s.Z (by rw [<- eh, one_no hc]; exact setH_self (by rw [hl]; exact hkn)) (by rw [<- eh, one_no hc]; exact List.append_nil _), [], by dsimp only [InI.next]; omega, rfl, ⟨leF_int rfl, leF_int rfl, leF_c (leC_os rfl rfl), leF_c (leC_os rfl rfl), leF_int w5, leF_int rfl, leF_int rfl, leF_int rfl, leF_int rfl, leF_int w4, trivial⟩, ⟨⟨rfl, leN_entP (by omega) (lt8 rfl rfl rfl rfl rfl rfl rfl rfl)⟩, ⟨rfl, leN_entN⟩, ⟨rfl, leN_entN⟩, ⟨rfl, leN_entN⟩, ⟨rfl, leN_entN⟩, ⟨rfl, leN_entN⟩, ⟨rfl, leN_entN⟩, ⟨rfl, leN_entN⟩, ⟨rfl, leN_entN⟩, ⟨rfl, leN_entN⟩, trivial⟩⟩
 . obtain ⟨l1, l2⟩ := s.last hkn
   have hkk := s.hk
   have w6 : IntKind.i64.wrap ((3 : Int) + 1) = ((3 + 1 : Nat) : Int) := rfl
   repeat' (first | (apply And.intro <;> intro hc <;> (first | exact Bool.noConfusion hc | (exfalso; first | exact absurd rfl hc | omega) | (simp only [zb0, ne_eq, not_true_eq_false] at hc <;> first | exact absurd rfl hc | (exfalso; first | exact absurd rfl hc | omega) | skip) | skip)) | (refine And.intro zp1 ?_) | (apply And.intro) | (intro s hs; skip) | (refine Exists.intro _ (And.intro ⟨rfl, rfl, rfl⟩ ?_)))
   conv => whnf
   refine ⟨s', [], by show M0.length - s'.i < _; rw [f4]; omega, rfl, ⟨leF_int rfl, leF_int rfl, leF_c (leC_os rfl (by rw [f1, List.length_set])), leF_c (leC_os rfl (by rw [f2, l2])), leF_int (by rw [f3]; omega), leF_int rfl, leF_int (by rw [f4]; rfl), trivial⟩, ⟨⟨rfl, ⟨rfl, by show _ = s'.M.length; rw [f1, List.length_set]; rfl, rfl, rfl, fun p hp j hj => ?_⟩⟩, ⟨rfl, leN_eqN (by rw [f1]; exact congrArg Sed.held (set_ne (by decide)).symm)⟩, ⟨rfl, leN_eqN (by rw [f1]; exact congrArg Sed.held (set_ne (by decide)).symm)⟩, ⟨rfl, leN_eqN (by rw [f1]; exact congrArg Sed.held (set_ne (by decide)).symm)⟩, ⟨rfl, leN_eqN (by rw [f1, set_at hiM]; exact l1)⟩, ⟨rfl, leN_eqN (by rw [f1]; exact congrArg Sed.held (set_ne (by decide)).symm)⟩, ⟨rfl, leN_eqN (by rw [f1]; exact congrArg Sed.held (set_ne (by decide)).symm)⟩, ⟨rfl, leN_eqN (by rw [f1]; exact congrArg Sed.held (set_ne (by decide)).symm)⟩, ⟨rfl, leN_eqN (by rw [f1]; exact congrArg Sed.held (set_ne (by decide)).symm)⟩, ⟨rfl, leN_eqZ (by rw [f2, l2])⟩, trivial⟩⟩
   have hp : p < M.length := hp
   have hj : j < 3 := hj
   show LeC _ (rowP 2 M p j) (rowP 2 s'.M p j)
   rw [f1]
   rcases (show p = 0 \/ p = 1 \/ p = 2 \/ p = 3 \/ p = 4 \/ p = 5 \/ p = 6 \/ p = 7 by omega) with rfl | rfl | rfl | rfl | rfl | rfl | rfl | rfl
   all_goals first
    | exact rowP_set_ne hj (by decide) rfl rfl
    | skip
   refine rowP_set_at hiM ?_
   rcases j with _ | _ | _ | j
   . exact leC_int rfl
   . exact leC_int rfl
   . exact leC_os rfl runH_len.symm
   . omega
theorem st2_4 (M0 : List Sed) (now draw : Int) (hm : ∀ s ∈ M0, SdOk s) (h8 : M0.length <= 8) (hd : drawOk draw) (ht : 0 <= now /\ now <= 1099511627776) (s : StI M0 now draw) (hi : s.i = 4) (hil : s.i < M0.length) (K : Kt) :
 exec T (mkQ LMs) 1024 Try.f21.ntmps 0 (loopIn (dropC 5 (Try.f21.body.getD Code.ret))) (S2 M0 now draw s).fr (S2 M0 now draw s).H (S2 M0 now draw s).nx (seqK (fun fr H _ => Goes (S2 M0 now draw) (fun s => M0.length - s.i) 0 (M0.length - s.i) fr H) K) := by
 have hS : SdOk (M0.getD s.i default) := hm _ (getD_in hil)
 obtain ⟨s', es'⟩ : ∃ s', s.next hil hS.n = s' := ⟨_, rfl⟩
 have f1 : s'.M = s.M.set s.i { M0.getD s.i default with held := (runH (M0.getD s.i default).id now draw (M0.getD s.i default).held s.b).1 } := by rw [<- es']; rfl
 have f2 : s'.Z = s.Z ++ (runH (M0.getD s.i default).id now draw (M0.getD s.i default).held s.b).2 := by rw [<- es']; rfl
 have f3 : s'.b = s.b + (M0.getD s.i default).held.length := by rw [<- es']; rfl
 have f4 : s'.i = s.i + 1 := by rw [<- es']; rfl
 clear es'
 obtain ⟨i, M, Z, b, hn, hi0, hb, hz, h2, r1, r2⟩ := s
 dsimp only at hi hil hS f1 f2 f3 f4
 subst hi
 have hiM : 4 < M.length := by omega
 have e0 := h2 4 (Nat.le_refl _)
 rw [<- e0] at hS f1 f2 f3
 have hk := hS.n
 unfold S2
 dsimp only
 clear h2 r1 r2 e0
 repeat' (first | (apply And.intro <;> intro hc <;> (first | exact Bool.noConfusion hc | (exfalso; first | exact absurd rfl hc | omega) | (simp only [zb0, ne_eq, not_true_eq_false] at hc <;> first | exact absurd rfl hc | (exfalso; first | exact absurd rfl hc | omega) | skip) | skip)) | (refine And.intro zp1 ?_) | (apply And.intro) | (intro s hs; skip) | (refine Exists.intro _ (And.intro ⟨rfl, rfl, rfl⟩ ?_)))
 conv => whnf
 refine loop_intro (mono_of LMs_ok) (fun s : InI (M.getD 4 default).held (M.getD 4 default).id now draw b Z => (⟨[(1, one (.int .i64 now)), (2, one (.int .u32 draw)), (9, one (.os 1 0 M.length)), (14, one (.os 10 0 s.Z.length)), (15, one (.int .u32 ((b + s.k : Nat) : Int))), (65, one (.int .i64 (M0.length : Int))), (66, one (.int .i64 ((4 : Nat) : Int))), (16, one (.int .i64 ((4 : Nat) : Int))), (74, one (.int .i64 ((M.getD 4 default).held.length : Int))), (75, one (.int .i64 (s.k : Int)))], [(1, some (entP 2 M.length M)), (2, some (entH (M.getD 0 default).held)), (3, some (entH (M.getD 1 default).held)), (4, some (entH (M.getD 2 default).held)), (5, some (entH (M.getD 3 default).held)), (6, some (entH s.H)), (7, some (entH (M.getD 5 default).held)), (8, some (entH (M.getD 6 default).held)), (9, some (entH (M.getD 7 default).held)), (10, some (entN neC 32 s.Z))], 11⟩ : Hd)) (fun s => (M.getD 4 default).held.length - s.k) (fun _ => rfl) ?_ (InI.start _ _ _ _ _ _) [] ⟨rfl, ⟨leF_int rfl, leF_int rfl, leF_c (leC_os rfl rfl), leF_c (leC_os rfl rfl), leF_int rfl, leF_int rfl, leF_int rfl, leF_int rfl, leF_int rfl, leF_int rfl, trivial⟩, ⟨⟨rfl, leN_entP (by omega) (lt8 rfl rfl rfl rfl rfl rfl rfl rfl)⟩, ⟨rfl, leN_entN⟩, ⟨rfl, leN_entN⟩, ⟨rfl, leN_entN⟩, ⟨rfl, leN_entN⟩, ⟨rfl, leN_entN⟩, ⟨rfl, leN_entN⟩, ⟨rfl, leN_entN⟩, ⟨rfl, leN_entN⟩, ⟨rfl, leN_entN⟩, trivial⟩⟩
 intro s
 by_cases hkn : s.k < (M.getD 4 default).held.length
 . have w4 : IntKind.i64.wrap ((s.k : Int) + 1) = ((s.k + 1 : Nat) : Int) := (IntWalk.i64_in _ (by omega)).trans (by omega)
   have w5 : IntKind.u32.wrap (((b + s.k : Nat) : Int) + 1) = ((b + (s.k + 1) : Nat) : Int) := (IntWalk.u32_in _ (by omega)).trans (by omega)
   have z0 : 0 + (s.k : Int).toNat = s.k := Nat.zero_add s.k
   have eh := s.h2 s.k (Nat.le_refl _)
   have hl := s.n
   have hzz := s.hz
   have bk : Nat.beq s.k s.k = true := Nat.beq_refl _
   have hx := hels_ok hS (getD_in hkn)
   rw [<- eh] at hx
   have hxd := hx.d
   obtain ⟨T, eT⟩ : ∃ T, stepT (s.H.getD s.k default).tm now (IntKind.u32.wrap (draw + ((b + s.k : Nat) : Int))) = T := ⟨_, rfl⟩
   repeat' (first | (simp only [z0, w4, w5, bk, Bool.cond_true]) | (apply And.intro <;> intro hc <;> (first | exact Bool.noConfusion hc | (exfalso; first | exact absurd rfl hc | omega) | (simp only [zb0, ne_eq, not_true_eq_false] at hc <;> first | exact absurd rfl hc | (exfalso; first | exact absurd rfl hc | omega) | skip) | skip)) | (refine And.intro zp1 ?_) | (apply And.intro) | (intro s hs; (have q : T = s := eT.symm.trans hs.symm; clear hs; subst q)) | (refine Exists.intro _ (And.intro ⟨rfl, rfl, rfl⟩ ?_)))
   . exact hc
   . exact (u32ok _).1
   . exact (u32ok _).2
   . conv => whnf
     refine ⟨s.next hkn (s.H.set s.k { s.H.getD s.k default with tm := T.1 }) (s.Z ++ [⟨(M.getD 4 default).id, (s.H.getD s.k default).num, (s.H.getD s.k default).data⟩]) (by rw [<- eh, one_yes (by assumption) eT]) (by rw [<- eh, one_yes (by assumption) eT, if_pos hc]), [(10, some 59403)], by dsimp only [InI.next]; omega, rfl, ⟨leF_int rfl, leF_int rfl, leF_c (leC_os rfl rfl), leF_c (leC_os rfl (by show _ = (s.Z ++ [_]).length; rw [List.length_append]; rfl)), leF_int w5, leF_int rfl, leF_int rfl, leF_int rfl, leF_int rfl, leF_int w4, trivial⟩, ⟨⟨rfl, leN_entP (by omega) (lt8 rfl rfl rfl rfl rfl rfl rfl rfl)⟩, ⟨rfl, leN_entN⟩, ⟨rfl, leN_entN⟩, ⟨rfl, leN_entN⟩, ⟨rfl, leN_entN⟩, ⟨rfl, leN_oneH ?_⟩, ⟨rfl, leN_entN⟩, ⟨rfl, leN_entN⟩, ⟨rfl, leN_entN⟩, ⟨rfl, ?_⟩, trivial⟩⟩
     . exact hel_row2 (by rw [hl]; exact hkn) (lt8c ⟨leC_int rfl, leC_int rfl, leC_int rfl, leC_int rfl, leC_int rfl, leC_int rfl, leC_int rfl, leC_bool rfl⟩)
     . refine casts_snoc fun j hj => ?_
       rcases j with _ | _ | _ | j
       . exact leC_int rfl
       . exact leC_int rfl
       . refine leC_os_sl rfl rfl rfl rfl (Nat.le_of_eq (Nat.zero_add _)) fun q hq j hj => ?_
         show LeC _ (rowF eB (s.H.getD s.k default).data (0 + q) j) (rowF eB (s.H.getD s.k default).data q j)
         exact leC_int (congrArg (fun z => (s.H.getD s.k default).data.getD z default) (Nat.zero_add q))
       . omega
   . conv => whnf
     refine ⟨s.next hkn (s.H.set s.k { s.H.getD s.k default with tm := T.1 }) s.Z (by rw [<- eh, one_yes (by assumption) eT]) (by rw [<- eh, one_yes (by assumption) eT, if_neg (by rw [hc]; simp)]; exact List.append_nil _), [], by dsimp only [InI.next]; omega, rfl, ⟨leF_int rfl, leF_int rfl, leF_c (leC_os rfl rfl), leF_c (leC_os rfl rfl), leF_int w5, leF_int rfl, leF_int rfl, leF_int rfl, leF_int rfl, leF_int w4, trivial⟩, ⟨⟨rfl, leN_entP (by omega) (lt8 rfl rfl rfl rfl rfl rfl rfl rfl)⟩, ⟨rfl, leN_entN⟩, ⟨rfl, leN_entN⟩, ⟨rfl, leN_entN⟩, ⟨rfl, leN_entN⟩, ⟨rfl, leN_oneH ?_⟩, ⟨rfl, leN_entN⟩, ⟨rfl, leN_entN⟩, ⟨rfl, leN_entN⟩, ⟨rfl, leN_entN⟩, trivial⟩⟩
     exact hel_row2 (by rw [hl]; exact hkn) (lt8c ⟨leC_int rfl, leC_int rfl, leC_int rfl, leC_int rfl, leC_int rfl, leC_int rfl, leC_int rfl, leC_bool rfl⟩)
   . conv => whnf
     exact ⟨s.next hkn s.H s.Z (by rw [<- eh, one_no hc]; exact setH_self (by rw [hl]; exact hkn)) (by rw [<- eh, one_no hc]; exact List.append_nil _), [], by dsimp only [InI.next]; omega, rfl, ⟨leF_int rfl, leF_int rfl, leF_c (leC_os rfl rfl), leF_c (leC_os rfl rfl), leF_int w5, leF_int rfl, leF_int rfl, leF_int rfl, leF_int rfl, leF_int w4, trivial⟩, ⟨⟨rfl, leN_entP (by omega) (lt8 rfl rfl rfl rfl rfl rfl rfl rfl)⟩, ⟨rfl, leN_entN⟩, ⟨rfl, leN_entN⟩, ⟨rfl, leN_entN⟩, ⟨rfl, leN_entN⟩, ⟨rfl, leN_entN⟩, ⟨rfl, leN_entN⟩, ⟨rfl, leN_entN⟩, ⟨rfl, leN_entN⟩, ⟨rfl, leN_entN⟩, trivial⟩⟩
 . obtain ⟨l1, l2⟩ := s.last hkn
   have hkk := s.hk
   have w6 : IntKind.i64.wrap ((4 : Int) + 1) = ((4 + 1 : Nat) : Int) := rfl
   repeat' (first | (apply And.intro <;> intro hc <;> (first | exact Bool.noConfusion hc | (exfalso; first | exact absurd rfl hc | omega) | (simp only [zb0, ne_eq, not_true_eq_false] at hc <;> first | exact absurd rfl hc | (exfalso; first | exact absurd rfl hc | omega) | skip) | skip)) | (refine And.intro zp1 ?_) | (apply And.intro) | (intro s hs; skip) | (refine Exists.intro _ (And.intro ⟨rfl, rfl, rfl⟩ ?_)))
   conv => whnf
   refine ⟨s', [], by show M0.length - s'.i < _; rw [f4]; omega, rfl, ⟨leF_int rfl, leF_int rfl, leF_c (leC_os rfl (by rw [f1, List.length_set])), leF_c (leC_os rfl (by rw [f2, l2])), leF_int (by rw [f3]; omega), leF_int rfl, leF_int (by rw [f4]; rfl), trivial⟩, ⟨⟨rfl, ⟨rfl, by show _ = s'.M.length; rw [f1, List.length_set]; rfl, rfl, rfl, fun p hp j hj => ?_⟩⟩, ⟨rfl, leN_eqN (by rw [f1]; exact congrArg Sed.held (set_ne (by decide)).symm)⟩, ⟨rfl, leN_eqN (by rw [f1]; exact congrArg Sed.held (set_ne (by decide)).symm)⟩, ⟨rfl, leN_eqN (by rw [f1]; exact congrArg Sed.held (set_ne (by decide)).symm)⟩, ⟨rfl, leN_eqN (by rw [f1]; exact congrArg Sed.held (set_ne (by decide)).symm)⟩, ⟨rfl, leN_eqN (by rw [f1, set_at hiM]; exact l1)⟩, ⟨rfl, leN_eqN (by rw [f1]; exact congrArg Sed.held (set_ne (by decide)).symm)⟩, ⟨rfl, leN_eqN (by rw [f1]; exact congrArg Sed.held (set_ne (by decide)).symm)⟩, ⟨rfl, leN_eqN (by rw [f1]; exact congrArg Sed.held (set_ne (by decide)).symm)⟩, ⟨rfl, leN_eqZ (by rw [f2, l2])⟩, trivial⟩⟩
   have hp : p < M.length := hp
   have hj : j < 3 := hj
   show LeC _ (rowP 2 M p j) (rowP 2 s'.M p j)
   rw [f1]
   rcases (show p = 0 \/ p = 1 \/ p = 2 \/ p = 3 \/ p = 4 \/ p = 5 \/ p = 6 \/ p = 7 by omega) with rfl | rfl | rfl | rfl | rfl | rfl | rfl | rfl
   all_goals first
    | exact rowP_set_ne hj (by decide) rfl rfl
    | skip
   refine rowP_set_at hiM ?_
   rcases j with _ | _ | _ | j
   . exact leC_int rfl
   . exact leC_int rfl
   . exact leC_os rfl runH_len.symm
   . omega
theorem st2_5 (M0 : List Sed) (now draw : Int) (hm : ∀ s ∈ M0, SdOk s) (h8 : M0.length <= 8) (hd : drawOk draw) (ht : 0 <= now /\ now <= 1099511627776) (s : StI M0 now draw) (hi : s.i = 5) (hil : s.i < M0.length) (K : Kt) :
 exec T (mkQ LMs) 1024 Try.f21.ntmps 0 (loopIn (dropC 5 (Try.f21.body.getD Code.ret))) (S2 M0 now draw s).fr (S2 M0 now draw s).H (S2 M0 now draw s).nx (seqK (fun fr H _ => Goes (S2 M0 now draw) (fun s => M0.length - s.i) 0 (M0.length - s.i) fr H) K) := by
 have hS : SdOk (M0.getD s.i default) := hm _ (getD_in hil)
 obtain ⟨s', es'⟩ : ∃ s', s.next hil hS.n = s' := ⟨_, rfl⟩
 have f1 : s'.M = s.M.set s.i { M0.getD s.i default with held := (runH (M0.getD s.i default).id now draw (M0.getD s.i default).held s.b).1 } := by rw [<- es']; rfl
 have f2 : s'.Z = s.Z ++ (runH (M0.getD s.i default).id now draw (M0.getD s.i default).held s.b).2 := by rw [<- es']; rfl
 have f3 : s'.b = s.b + (M0.getD s.i default).held.length := by rw [<- es']; rfl
 have f4 : s'.i = s.i + 1 := by rw [<- es']; rfl
 clear es'
 obtain ⟨i, M, Z, b, hn, hi0, hb, hz, h2, r1, r2⟩ := s
 dsimp only at hi hil hS f1 f2 f3 f4
 subst hi
 have hiM : 5 < M.length := by omega
 have e0 := h2 5 (Nat.le_refl _)
 rw [<- e0] at hS f1 f2 f3
 have hk := hS.n
 unfold S2
 dsimp only
 clear h2 r1 r2 e0
 repeat' (first | (apply And.intro <;> intro hc <;> (first | exact Bool.noConfusion hc | (exfalso; first | exact absurd rfl hc | omega) | (simp only [zb0, ne_eq, not_true_eq_false] at hc <;> first | exact absurd rfl hc | (exfalso; first | exact absurd rfl hc | omega) | skip) | skip)) | (refine And.intro zp1 ?_) | (apply And.intro) | (intro s hs; skip) | (refine Exists.intro _ (And.intro ⟨rfl, rfl, rfl⟩ ?_)))
 conv => whnf
 refine loop_intro (mono_of LMs_ok) (fun s : InI (M.getD 5 default).held (M.getD 5 default).id now draw b Z => (⟨[(1, one (.int .i64 now)), (2, one (.int .u32 draw)), (9, one (.os 1 0 M.length)), (14, one (.os 10 0 s.Z.length)), (15, one (.int .u32 ((b + s.k : Nat) : Int))), (65, one (.int .i64 (M0.length : Int))), (66, one (.int .i64 ((5 : Nat) : Int))), (16, one (.int .i64 ((5 : Nat) : Int))), (74, one (.int .i64 ((M.getD 5 default).held.length : Int))), (75, one (.int .i64 (s.k : Int)))], [(1, some (entP 2 M.length M)), (2, some (entH (M.getD 0 default).held)), (3, some (entH (M.getD 1 default).held)), (4, some (entH (M.getD 2 default).held)), (5, some (entH (M.getD 3 default).held)), (6, some (entH (M.getD 4 default).held)), (7, some (entH s.H)), (8, some (entH (M.getD 6 default).held)), (9, some (entH (M.getD 7 default).held)), (10, some (entN neC 32 s.Z))], 11⟩ : Hd)) (fun s => (M.getD 5 default).held.length - s.k) (fun _ => rfl) ?_ (InI.start _ _ _ _ _ _) [] ⟨rfl, ⟨leF_int rfl, leF_int rfl, leF_c (leC_os rfl rfl), leF_c (leC_os rfl rfl), leF_int rfl, leF_int rfl, leF_int rfl, leF_int rfl, leF_int rfl, leF_int rfl, trivial⟩, ⟨⟨rfl, leN_entP (by omega) (lt8 rfl rfl rfl rfl rfl rfl rfl rfl)⟩, ⟨rfl, leN_entN⟩, ⟨rfl, leN_entN⟩, ⟨rfl, leN_entN⟩, ⟨rfl, leN_entN⟩, ⟨rfl, leN_entN⟩, ⟨rfl, leN_entN⟩, ⟨rfl, leN_entN⟩, ⟨rfl, leN_entN⟩, ⟨rfl, leN_entN⟩, trivial⟩⟩
 intro s
 by_cases hkn : s.k < (M.getD 5 default).held.length
 . have w4 : IntKind.i64.wrap ((s.k : Int) + 1) = ((s.k + 1 : Nat) : Int) := (IntWalk.i64_in _ (by omega)).trans (by omega)
   have w5 : IntKind.u32.wrap (((b + s.k : Nat) : Int) + 1) = ((b + (s.k + 1) : Nat) : Int) := (IntWalk.u32_in _ (by omega)).trans (by omega)
   have z0 : 0 + (s.k : Int).toNat = s.k := Nat.zero_add s.k
   have eh := s.h2 s.k (Nat.le_refl _)
   have hl := s.n
   have hzz := s.hz
   have bk : Nat.beq s.k s.k = true := Nat.beq_refl _
   have hx := hels_ok hS (getD_in hkn)
   rw [<- eh] at hx
   have hxd := hx.d
   obtain ⟨T, eT⟩ : ∃ T, stepT (s.H.getD s.k default).tm now (IntKind.u32.wrap (draw + ((b + s.k : Nat) : Int))) = T := ⟨_, rfl⟩
   repeat' (first | (simp only [z0, w4, w5, bk, Bool.cond_true]) | (apply And.intro <;> intro hc <;> (first | exact Bool.noConfusion hc | (exfalso; first | exact absurd rfl hc | omega) | (simp only [zb0, ne_eq, not_true_eq_false] at hc <;> first | exact absurd rfl hc | (exfalso; first | exact absurd rfl hc | omega) | skip) | skip)) | (refine And.intro zp1 ?_) | (apply And.intro) | (intro s hs; (have q : T = s := eT.symm.trans hs.symm; clear hs; subst q)) | (refine Exists.intro _ (And.intro ⟨rfl, rfl, rfl⟩ ?_)))
   . exact hc
   . exact (u32ok _).1
   . exact (u32ok _).2
   . conv => whnf
     refine ⟨s.next hkn (s.H.set s.k { s.H.getD s.k default with tm := T.1 }) (s.Z ++ [⟨(M.getD 5 default).id, (s.H.getD s.k default).num, (s.H.getD s.k default).data⟩]) (by rw [<- eh, one_yes (by assumption) eT]) (by rw [<- eh, one_yes (by assumption) eT, if_pos hc]), [(10, some 59403)], by dsimp only [InI.next]; omega, rfl, ⟨leF_int rfl, leF_int rfl, leF_c (leC_os rfl rfl), leF_c (leC_os rfl (by show _ = (s.Z ++ [_]).length; rw [List.length_append]; rfl)), leF_int w5, leF_int rfl, leF_int rfl, leF_int rfl, leF_int rfl, leF_int w4, trivial⟩, ⟨⟨rfl, leN_entP (by omega) (lt8 rfl rfl rfl rfl rfl rfl rfl rfl)⟩, ⟨rfl, leN_entN⟩, ⟨rfl, leN_entN⟩, ⟨rfl, leN_entN⟩, ⟨rfl, leN_entN⟩, ⟨rfl, leN_entN⟩, ⟨rfl, leN_oneH ?_⟩, ⟨rfl, leN_entN⟩, ⟨rfl, leN_entN⟩, ⟨rfl, ?_⟩, trivial⟩⟩
     . exact hel_row2 (by rw [hl]; exact hkn) (lt8c ⟨leC_int rfl, leC_int rfl, leC_int rfl, leC_int rfl, leC_int rfl, leC_int rfl, leC_int rfl, leC_bool rfl⟩)
     . refine casts_snoc fun j hj => ?_
       rcases j with _ | _ | _ | j
       . exact leC_int rfl
       . exact leC_int rfl
       . refine leC_os_sl rfl rfl rfl rfl (Nat.le_of_eq (Nat.zero_add _)) fun q hq j hj => ?_
         show LeC _ (rowF eB (s.H.getD s.k default).data (0 + q) j) (rowF eB (s.H.getD s.k default).data q j)
         exact leC_int (congrArg (fun z => (s.H.getD s.k default).data.getD z default) (Nat.zero_add q))
       . omega
   . conv => whnf
     refine ⟨s.next hkn (s.H.set s.k { s.H.getD s.k default with tm := T.1 }) s.Z (by rw [<- eh, one_yes (by assumption) eT]) (by rw [<- eh, one_yes (by assumption) eT, if_neg (by rw [hc]; simp)]; exact List.append_nil _), [], by dsimp only [InI.next]; omega, rfl, ⟨leF_int rfl, leF_int rfl, leF_c (leC_os rfl rfl), leF_c (leC_os rfl rfl), leF_int w5, leF_int rfl, leF_int rfl, leF_int rfl, leF_int rfl, leF_int w4, trivial⟩, ⟨⟨rfl, leN_entP (by omega) (lt8 rfl rfl rfl rfl rfl rfl rfl rfl)⟩, ⟨rfl, leN_entN⟩, ⟨rfl, leN_entN⟩, ⟨rfl, leN_entN⟩, ⟨rfl, leN_entN⟩, ⟨rfl, leN_entN⟩, ⟨rfl, leN_oneH ?_⟩, ⟨rfl, leN_entN⟩, ⟨rfl, leN_entN⟩, ⟨rfl, leN_entN⟩, trivial⟩⟩
     exact hel_row2 (by rw [hl]; exact hkn) (lt8c ⟨leC_int rfl, leC_int rfl, leC_int rfl, leC_int rfl, leC_int rfl, leC_int rfl, leC_int rfl, leC_bool rfl⟩)
   . conv => whnf
     exact ⟨s.next hkn s.H s.Z (by rw [<- eh, one_no hc]; exact setH_self (by rw [hl]; exact hkn)) (by rw [<- eh, one_no hc]; exact List.append_nil _), [], by dsimp only [InI.next]; omega, rfl, ⟨leF_int rfl, leF_int rfl, leF_c (leC_os rfl rfl), leF_c (leC_os rfl rfl), leF_int w5, leF_int rfl, leF_int rfl, leF_int rfl, leF_int rfl, leF_int w4, trivial⟩, ⟨⟨rfl, leN_entP (by omega) (lt8 rfl rfl rfl rfl rfl rfl rfl rfl)⟩, ⟨rfl, leN_entN⟩, ⟨rfl, leN_entN⟩, ⟨rfl, leN_entN⟩, ⟨rfl, leN_entN⟩, ⟨rfl, leN_entN⟩, ⟨rfl, leN_entN⟩, ⟨rfl, leN_entN⟩, ⟨rfl, leN_entN⟩, ⟨rfl, leN_entN⟩, trivial⟩⟩
 . obtain ⟨l1, l2⟩ := s.last hkn
   have hkk := s.hk
   have w6 : IntKind.i64.wrap ((5 : Int) + 1) = ((5 + 1 : Nat) : Int) := rfl
   repeat' (first | (apply And.intro <;> intro hc <;> (first | exact Bool.noConfusion hc | (exfalso; first | exact absurd rfl hc | omega) | (simp only [zb0, ne_eq, not_true_eq_false] at hc <;> first | exact absurd rfl hc | (exfalso; first | exact absurd rfl hc | omega) | skip) | skip)) | (refine And.intro zp1 ?_) | (apply And.intro) | (intro s hs; skip) | (refine Exists.intro _ (And.intro ⟨rfl, rfl, rfl⟩ ?_)))
   conv => whnf
   refine ⟨s', [], by show M0.length - s'.i < _; rw [f4]; omega, rfl, ⟨leF_int rfl, leF_int rfl, leF_c (leC_os rfl (by rw [f1, List.length_set])), leF_c (leC_os rfl (by rw [f2, l2])), leF_int (by rw [f3]; omega), leF_int rfl, leF_int (by rw [f4]; rfl), trivial⟩, ⟨⟨rfl, ⟨rfl, by show _ = s'.M.length; rw [f1, List.length_set]; rfl, rfl, rfl, fun p hp j hj => ?_⟩⟩, ⟨rfl, leN_eqN (by rw [f1]; exact congrArg Sed.held (set_ne (by decide)).symm)⟩, ⟨rfl, leN_eqN (by rw [f1]; exact congrArg Sed.held (set_ne (by decide)).symm)⟩, ⟨rfl, leN_eqN (by rw [f1]; exact congrArg Sed.held (set_ne (by decide)).symm)⟩, ⟨rfl, leN_eqN (by rw [f1]; exact congrArg Sed.held (set_ne (by decide)).symm)⟩, ⟨rfl, leN_eqN (by rw [f1]; exact congrArg Sed.held (set_ne (by decide)).symm)⟩, ⟨rfl, leN_eqN (by rw [f1, set_at hiM]; exact l1)⟩, ⟨rfl, leN_eqN (by rw [f1]; exact congrArg Sed.held (set_ne (by decide)).symm)⟩, ⟨rfl, leN_eqN (by rw [f1]; exact congrArg Sed.held (set_ne (by decide)).symm)⟩, ⟨rfl, leN_eqZ (by rw [f2, l2])⟩, trivial⟩⟩
   have hp : p < M.length := hp
   have hj : j < 3 := hj
   show LeC _ (rowP 2 M p j) (rowP 2 s'.M p j)
   rw [f1]
   rcases (show p = 0 \/ p = 1 \/ p = 2 \/ p = 3 \/ p = 4 \/ p = 5 \/ p = 6 \/ p = 7 by omega) with rfl | rfl | rfl | rfl | rfl | rfl | rfl | rfl
   all_goals first
    | exact rowP_set_ne hj (by decide) rfl rfl
    | skip
   refine rowP_set_at hiM ?_
   rcases j with _ | _ | _ | j
   . exact leC_int rfl
   . exact leC_int rfl
   . exact leC_os rfl runH_len.symm
   . omega
theorem st2_6 (M0 : List Sed) (now draw : Int) (hm : ∀ s ∈ M0, SdOk s) (h8 : M0.length <= 8) (hd : drawOk draw) (ht : 0 <= now /\ now <= 1099511627776) (s : StI M0 now draw) (hi : s.i = 6) (hil : s.i < M0.length) (K : Kt) :
 exec T (mkQ LMs) 1024 Try.f21.ntmps 0 (loopIn (dropC 5 (Try.f21.body.getD Code.ret))) (S2 M0 now draw s).fr (S2 M0 now draw s).H (S2 M0 now draw s).nx (seqK (fun fr H _ => Goes (S2 M0 now draw) (fun s => M0.length - s.i) 0 (M0.length - s.i) fr H) K) := by
 have hS : SdOk (M0.getD s.i default) := hm _ (getD_in hil)
 obtain ⟨s', es'⟩ : ∃ s', s.next hil hS.n = s' := ⟨_, rfl⟩
 have f1 : s'.M = s.M.set s.i { M0.getD s.i default with held := (runH (M0.getD s.i default).id now draw (M0.getD s.i default).held s.b).1 } := by rw [<- es']; rfl
 have f2 : s'.Z = s.Z ++ (runH (M0.getD s.i default).id now draw (M0.getD s.i default).held s.b).2 := by rw [<- es']; rfl
 have f3 : s'.b = s.b + (M0.getD s.i default).held.length := by rw [<- es']; rfl
 have f4 : s'.i = s.i + 1 := by rw [<- es']; rfl
 clear es'
 obtain ⟨i, M, Z, b, hn, hi0, hb, hz, h2, r1, r2⟩ := s
 dsimp only at hi hil hS f1 f2 f3 f4
 subst hi
 have hiM : 6 < M.length := by omega
 have e0 := h2 6 (Nat.le_refl _)
 rw [<- e0] at hS f1 f2 f3
 have hk := hS.n
 unfold S2
 dsimp only
 clear h2 r1 r2 e0
 repeat' (first | (apply And.intro <;> intro hc <;> (first | exact Bool.noConfusion hc | (exfalso; first | exact absurd rfl hc | omega) | (simp only [zb0, ne_eq, not_true_eq_false] at hc <;> first | exact absurd rfl hc | (exfalso; first | exact absurd rfl hc | omega) | skip) | skip)) | (refine And.intro zp1 ?_) | (apply And.intro) | (intro s hs; skip) | (refine Exists.intro _ (And.intro ⟨rfl, rfl, rfl⟩ ?_)))
 conv => whnf
 refine loop_intro (mono_of LMs_ok) (fun s : InI (M.getD 6 default).held (M.getD 6 default).id now draw b Z => (⟨[(1, one (.int .i64 now)), (2, one (.int .u32 draw)), (9, one (.os 1 0 M.length)), (14, one (.os 10 0 s.Z.length)), (15, one (.int .u32 ((b + s.k : Nat) : Int))), (65, one (.int .i64 (M0.length : Int))), (66, one (.int .i64 ((6 : Nat) : Int))), (16, one (.int .i64 ((6 : Nat) : Int))), (74, one (.int .i64 ((M.getD 6 default).held.length : Int))), (75, one (.int .i64 (s.k : Int)))], [(1, some (entP 2 M.length M)), (2, some (entH (M.getD 0 default).held)), (3, some (entH (M.getD 1 default).held)), (4, some (entH (M.getD 2 default).held)), (5, some (entH (M.getD 3 default).held)), (6, some (entH (M.getD 4 default).held)), (7, some (entH (M.getD 5 default).held)), (8, some (entH s.H)), (9, some (entH (M.getD 7 default).held)), (10, some (entN neC 32 s.Z))], 11⟩ : Hd)) (fun s => (M.getD 6 default).held.length - s.k) (fun _ => rfl) ?_ (InI.start _ _ _ _ _ _) [] ⟨rfl, ⟨leF_int rfl, leF_int rfl, leF_c (leC_os rfl rfl), leF_c (leC_os rfl rfl), leF_int rfl, leF_int rfl, leF_int rfl, leF_int rfl, leF_int rfl, leF_int rfl, trivial⟩, ⟨⟨rfl, leN_entP (by omega) (lt8 rfl rfl rfl rfl rfl rfl rfl rfl)⟩, ⟨rfl, leN_entN⟩, ⟨rfl, leN_entN⟩, ⟨rfl, leN_entN⟩, ⟨rfl, leN_entN⟩, ⟨rfl, leN_entN⟩, ⟨rfl, leN_entN⟩, ⟨rfl, leN_entN⟩, ⟨rfl, leN_entN⟩, ⟨rfl, leN_entN⟩, trivial⟩⟩
 intro s
 by_cases hkn : s.k < (M.getD 6 default).held.length
 . have w4 : IntKind.i64.wrap ((s.k : Int) + 1) = ((s.k + 1 : Nat) : Int) := (IntWalk.i64_in _ (by omega)).trans (by omega)
   have w5 : IntKind.u32.wrap (((b + s.k : Nat) : Int) + 1) = ((b + (s.k + 1) : Nat) : Int) := (IntWalk.u32_in _ (by omega)).trans (by omega)
   have z0 : 0 + (s.k : Int).toNat = s.k := Nat.zero_add s.k
   have eh := s.h2 s.k (Nat.le_refl _)
   have hl := s.n
   have hzz := s.hz
   have bk : Nat.beq s.k s.k = true := Nat.beq_refl _
   have hx := hels_ok hS (getD_in hkn)
   rw [<- eh] at hx
   have hxd := hx.d
   obtain ⟨T, eT⟩ : ∃ T, stepT (s.H.getD s.k default).tm now (IntKind.u32.wrap (draw + ((b + s.k : Nat) : Int))) = T := ⟨_, rfl⟩
   repeat' (first | (simp only [z0, w4, w5, bk, Bool.cond_true]) | (apply And.intro <;> intro hc <;> (first | exact Bool.noConfusion hc | (exfalso; first | exact absurd rfl hc | omega) | (simp only [zb0, ne_eq, not_true_eq_false] at hc <;> first | exact absurd rfl hc | (exfalso; first | exact absurd rfl hc | omega) | skip) | skip)) | (refine And.intro zp1 ?_) | (apply And.intro) | (intro s hs; (have q : T = s := eT.symm.trans hs.symm; clear hs; subst q)) | (refine Exists.intro _ (And.intro ⟨rfl, rfl, rfl⟩ ?_)))
   . exact hc
   . exact (u32ok _).1
   . exact (u32ok _).2
   . conv => whnf
     refine ⟨s.next hkn (s.H.set s.k { s.H.getD s.k default with tm := T.1 }) (s.Z ++ [⟨(M.getD 6 default).id, (s.H.getD s.k default).num, (s.H.getD s.k default).data⟩]) (by rw [<- eh, one_yes (by assumption) eT]) (by rw [<- eh, one_yes (by assumption) eT, if_pos hc]), [(10, some 59403)], by dsimp only [InI.next]; omega, rfl, ⟨leF_int rfl, leF_int rfl, leF_c (leC_os rfl rfl), leF_c (leC_os rfl (by show _ = (s.Z ++ [_]).length; rw [List.length_append]; rfl)), leF_int w5, leF_int rfl, leF_int rfl, leF_int rfl, leF_int rfl, leF_int w4, trivial⟩, ⟨⟨rfl, leN_entP (by omega) (lt8 rfl rfl rfl rfl rfl rfl rfl rfl)⟩, ⟨rfl, leN_entN⟩, ⟨rfl, leN_entN⟩, ⟨rfl, leN_entN⟩, ⟨rfl, leN_entN⟩, ⟨rfl, leN_entN⟩, ⟨rfl, leN_entN⟩, ⟨rfl, leN_oneH ?_⟩, ⟨rfl, leN_entN⟩, ⟨rfl, ?_⟩, trivial⟩⟩
     . exact hel_row2 (by rw [hl]; exact hkn) (lt8c ⟨leC_int rfl, leC_int rfl, leC_int rfl, leC_int rfl, leC_int rfl, leC_int rfl, leC_int rfl, leC_bool rfl⟩)
     . refine casts_snoc fun j hj => ?_
       rcases j with _ | _ | _ | j
       . exact leC_int rfl
       . exact leC_int rfl
       . refine leC_os_sl rfl rfl rfl rfl (Nat.le_of_eq (Nat.zero_add _)) fun q hq j hj => ?_
         show LeC _ (rowF eB (s.H.getD s.k default).data (0 + q) j) (rowF eB (s.H.getD s.k default).data q j)
         exact leC_int (congrArg (fun z => (s.H.getD s.k default).data.getD z default) (Nat.zero_add q))
       . omega
   . conv => whnf
     refine ⟨s.next hkn (s.H.set s.k { s.H.getD s.k default with tm := T.1 }) s.Z (by rw [<- eh, one_yes (by assumption) eT]) (by rw [<- eh, one_yes (by assumption) eT, if_neg (by rw [hc]; simp)]; exact List.append_nil _), [], by dsimp only [InI.next]; omega, rfl, ⟨leF_int rfl, leF_int rfl, leF_c (leC_os rfl rfl), leF_c (leC_os rfl rfl), leF_int w5, leF_int rfl, leF_int rfl, leF_int rfl, leF_int rfl, leF_int w4, trivial⟩, ⟨⟨rfl, leN_entP (by omega) (lt8 rfl rfl rfl rfl rfl rfl rfl rfl)⟩, ⟨rfl, leN_entN⟩, ⟨rfl, leN_entN⟩, ⟨rfl, leN_entN⟩, ⟨rfl, leN_entN⟩, ⟨rfl, leN_entN⟩, ⟨rfl, leN_entN⟩, ⟨rfl, leN_oneH ?_⟩, ⟨rfl, leN_entN⟩, ⟨rfl, leN_entN⟩, trivial⟩⟩
     exact hel_row2 (by rw [hl]; exact hkn) (lt8c ⟨leC_int rfl, leC_int rfl, leC_int rfl, leC_int rfl, leC_int rfl, leC_int rfl, leC_int rfl, leC_bool rfl⟩)
   . conv => whnf
     exact ⟨s.next hkn s.H s.Z (by rw [<- eh, one_no hc]; exact setH_self (by rw [hl]; exact hkn)) (by rw [<- eh, one_no hc]; exact List.append_nil _), [], by dsimp only [InI.next]; omega, rfl, ⟨leF_int rfl, leF_int rfl, leF_c (leC_os rfl rfl), leF_c (leC_os rfl rfl), leF_int w5, leF_int rfl, leF_int rfl, leF_int rfl, leF_int rfl, leF_int w4, trivial⟩, ⟨⟨rfl, leN_entP (by omega) (lt8 rfl rfl rfl rfl rfl rfl rfl rfl)⟩, ⟨rfl, leN_entN⟩, ⟨rfl, leN_entN⟩, ⟨rfl, leN_entN⟩, ⟨rfl, leN_entN⟩, ⟨rfl, leN_entN⟩, ⟨rfl, leN_entN⟩, ⟨rfl, leN_entN⟩, ⟨rfl, leN_entN⟩, ⟨rfl, leN_entN⟩, trivial⟩⟩
 . obtain ⟨l1, l2⟩ := s.last hkn
   have hkk := s.hk
   have w6 : IntKind.i64.wrap ((6 : Int) + 1) = ((6 + 1 : Nat) : Int) := rfl
   repeat' (first | (apply And.intro <;> intro hc <;> (first | exact Bool.noConfusion hc | (exfalso; first | exact absurd rfl hc | omega) | (simp only [zb0, ne_eq, not_true_eq_false] at hc <;> first | exact absurd rfl hc | (exfalso; first | exact absurd rfl hc | omega) | skip) | skip)) | (refine And.intro zp1 ?_) | (apply And.intro) | (intro s hs; skip) | (refine Exists.intro _ (And.intro ⟨rfl, rfl, rfl⟩ ?_)))
   conv => whnf
   refine ⟨s', [], by show M0.length - s'.i < _; rw [f4]; omega, rfl, ⟨leF_int rfl, leF_int rfl, leF_c (leC_os rfl (by rw [f1, List.length_set])), leF_c (leC_os rfl (by rw [f2, l2])), leF_int (by rw [f3]; omega), leF_int rfl, leF_int (by rw [f4]; rfl), trivial⟩, ⟨⟨rfl, ⟨rfl, by show _ = s'.M.length; rw [f1, List.length_set]; rfl, rfl, rfl, fun p hp j hj => ?_⟩⟩, ⟨rfl, leN_eqN (by rw [f1]; exact congrArg Sed.held (set_ne (by decide)).symm)⟩, ⟨rfl, leN_eqN (by rw [f1]; exact congrArg Sed.held (set_ne (by decide)).symm)⟩, ⟨rfl, leN_eqN (by rw [f1]; exact congrArg Sed.held (set_ne (by decide)).symm)⟩, ⟨rfl, leN_eqN (by rw [f1]; exact congrArg Sed.held (set_ne (by decide)).symm)⟩, ⟨rfl, leN_eqN (by rw [f1]; exact congrArg Sed.held (set_ne (by decide)).symm)⟩, ⟨rfl, leN_eqN (by rw [f1]; exact congrArg Sed.held (set_ne (by decide)).symm)⟩, ⟨rfl, leN_eqN (by rw [f1, set_at hiM]; exact l1)⟩, ⟨rfl, leN_eqN (by rw [f1]; exact congrArg Sed.held (set_ne (by decide)).symm)⟩, ⟨rfl, leN_eqZ (by rw [f2, l2])⟩, trivial⟩⟩
   have hp : p < M.length := hp
   have hj : j < 3 := hj
   show LeC _ (rowP 2 M p j) (rowP 2 s'.M p j)
   rw [f1]
   rcases (show p = 0 \/ p = 1 \/ p = 2 \/ p = 3 \/ p = 4 \/ p = 5 \/ p = 6 \/ p = 7 by omega) with rfl | rfl | rfl | rfl | rfl | rfl | rfl | rfl
   all_goals first
    | exact rowP_set_ne hj (by decide) rfl rfl
    | skip
   refine rowP_set_at hiM ?_
   rcases j with _ | _ | _ | j
   . exact leC_int rfl
   . exact leC_int rfl
   . exact leC_os rfl runH_len.symm
   . omega
theorem st2_7 (M0 : List Sed) (now draw : Int) (hm : ∀ s ∈ M0, SdOk s) (h8 : M0.length <= 8) (hd : drawOk draw) (ht : 0 <= now /\ now <= 1099511627776) (s : StI M0 now draw) (hi : s.i = 7) (hil : s.i < M0.length) (K : Kt) :
 exec T (mkQ LMs) 1024 Try.f21.ntmps 0 (loopIn (dropC 5 (Try.f21.body.getD Code.ret))) (S2 M0 now draw s).fr (S2 M0 now draw s).H (S2 M0 now draw s).nx (seqK (fun fr H _ => Goes (S2 M0 now draw) (fun s => M0.length - s.i) 0 (M0.length - s.i) fr H) K) := by
 have hS : SdOk (M0.getD s.i default) := hm _ (getD_in hil)
 obtain ⟨s', es'⟩ : ∃ s', s.next hil hS.n = s' := ⟨_, rfl⟩
 have f1 : s'.M = s.M.set s.i { M0.getD s.i default with held := (runH (M0.getD s.i default).id now draw (M0.getD s.i default).held s.b).1 } := by rw [<- es']; rfl
 have f2 : s'.Z = s.Z ++ (runH (M0.getD s.i default).id now draw (M0.getD s.i default).held s.b).2 := by rw [<- es']; rfl
 have f3 : s'.b = s.b + (M0.getD s.i default).held.length := by rw [<- es']; rfl
 have f4 : s'.i = s.i + 1 := by rw [<- es']; rfl
 clear es'
 obtain ⟨i, M, Z, b, hn, hi0, hb, hz, h2, r1, r2⟩ := s
 dsimp only at hi hil hS f1 f2 f3 f4
 subst hi
 have hiM : 7 < M.length := by omega
 have e0 := h2 7 (Nat.le_refl _)
 rw [<- e0] at hS f1 f2 f3
 have hk := hS.n
 unfold S2
 dsimp only
 clear h2 r1 r2 e0
 repeat' (first | (apply And.intro <;> intro hc <;> (first | exact Bool.noConfusion hc | (exfalso; first | exact absurd rfl hc | omega) | (simp only [zb0, ne_eq, not_true_eq_false] at hc <;> first | exact absurd rfl hc | (exfalso; first | exact absurd rfl hc | omega) | skip) | skip)) | (refine And.intro zp1 ?_) | (apply And.intro) | (intro s hs; skip) | (refine Exists.intro _ (And.intro ⟨rfl, rfl, rfl⟩ ?_)))
 conv => whnf
 refine loop_intro (mono_of LMs_ok) (fun s : InI (M.getD 7 default).held (M.getD 7 default).id now draw b Z => (⟨[(1, one (.int .i64 now)), (2, one (.int .u32 draw)), (9, one (.os 1 0 M.length)), (14, one (.os 10 0 s.Z.length)), (15, one (.int .u32 ((b + s.k : Nat) : Int))), (65, one (.int .i64 (M0.length : Int))), (66, one (.int .i64 ((7 : Nat) : Int))), (16, one (.int .i64 ((7 : Nat) : Int))), (74, one (.int .i64 ((M.getD 7 default).held.length : Int))), (75, one (.int .i64 (s.k : Int)))], [(1, some (entP 2 M.length M)), (2, some (entH (M.getD 0 default).held)), (3, some (entH (M.getD 1 default).held)), (4, some (entH (M.getD 2 default).held)), (5, some (entH (M.getD 3 default).held)), (6, some (entH (M.getD 4 default).held)), (7, some (entH (M.getD 5 default).held)), (8, some (entH (M.getD 6 default).held)), (9, some (entH s.H)), (10, some (entN neC 32 s.Z))], 11⟩ : Hd)) (fun s => (M.getD 7 default).held.length - s.k) (fun _ => rfl) ?_ (InI.start _ _ _ _ _ _) [] ⟨rfl, ⟨leF_int rfl, leF_int rfl, leF_c (leC_os rfl rfl), leF_c (leC_os rfl rfl), leF_int rfl, leF_int rfl, leF_int rfl, leF_int rfl, leF_int rfl, leF_int rfl, trivial⟩, ⟨⟨rfl, leN_entP (by omega) (lt8 rfl rfl rfl rfl rfl rfl rfl rfl)⟩, ⟨rfl, leN_entN⟩, ⟨rfl, leN_entN⟩, ⟨rfl, leN_entN⟩, ⟨rfl, leN_entN⟩, ⟨rfl, leN_entN⟩, ⟨rfl, leN_entN⟩, ⟨rfl, leN_entN⟩, ⟨rfl, leN_entN⟩, ⟨rfl, leN_entN⟩, trivial⟩⟩
 intro s
 by_cases hkn : s.k < (M.getD 7 default).held.length
 . have w4 : IntKind.i64.wrap ((s.k : Int) + 1) = ((s.k + 1 : Nat) : Int) := (IntWalk.i64_in _ (by omega)).trans (by omega)
   have w5 : IntKind.u32.wrap (((b + s.k : Nat) : Int) + 1) = ((b + (s.k + 1) : Nat) : Int) := (IntWalk.u32_in _ (by omega)).trans (by omega)
   have z0 : 0 + (s.k : Int).toNat = s.k := Nat.zero_add s.k
   have eh := s.h2 s.k (Nat.le_refl _)
   have hl := s.n
   have hzz := s.hz
   have bk : Nat.beq s.k s.k = true := Nat.beq_refl _
   have hx := hels_ok hS (getD_in hkn)
   rw [<- eh] at hx
   have hxd := hx.d
   obtain ⟨T, eT⟩ : ∃ T, stepT (s.H.getD s.k default).tm now (IntKind.u32.wrap (draw + ((b + s.k : Nat) : Int))) = T := ⟨_, rfl⟩
   repeat' (first | (simp only [z0, w4, w5, bk, Bool.cond_true]) | (apply And.intro <;> intro hc <;> (first | exact Bool.noConfusion hc | (exfalso; first | exact absurd rfl hc | omega) | (simp only [zb0, ne_eq, not_true_eq_false] at hc <;> first | exact absurd rfl hc | (exfalso; first | exact absurd rfl hc | omega) | skip) | skip)) | (refine And.intro zp1 ?_) | (apply And.intro) | (intro s hs; (have q : T = s := eT.symm.trans hs.symm; clear hs; subst q)) | (refine Exists.intro _ (And.intro ⟨rfl, rfl, rfl⟩ ?_)))
   . exact hc
   . exact (u32ok _).1
   . exact (u32ok _).2
   . conv => whnf
     refine ⟨s.next hkn (s.H.set s.k { s.H.getD s.k default with tm := T.1 }) (s.Z ++ [⟨(M.getD 7 default).id, (s.H.getD s.k default).num, (s.H.getD s.k default).data⟩]) (by rw [<- eh, one_yes (by assumption) eT]) (by rw [<- eh, one_yes (by assumption) eT, if_pos hc]), [(10, some 59403)], by dsimp only [InI.next]; omega, rfl, ⟨leF_int rfl, leF_int rfl, leF_c (leC_os rfl rfl), leF_c (leC_os rfl (by show _ = (s.Z ++ [_]).length; rw [List.length_append]; rfl)), leF_int w5, leF_int rfl, leF_int rfl, leF_int rfl, leF_int rfl, leF_int w4, trivial⟩, ⟨⟨rfl, leN_entP (by omega) (lt8 rfl rfl rfl rfl rfl rfl rfl rfl)⟩, ⟨rfl, leN_entN⟩, ⟨rfl, leN_entN⟩, ⟨rfl, leN_entN⟩, ⟨rfl, leN_entN⟩, ⟨rfl, leN_entN⟩, ⟨rfl, leN_entN⟩, ⟨rfl, leN_entN⟩, ⟨rfl, leN_oneH ?_⟩, ⟨rfl, ?_⟩, trivial⟩⟩
     . exact hel_row2 (by rw [hl]; exact hkn) (lt8c ⟨leC_int rfl, leC_int rfl, leC_int rfl, leC_int rfl, leC_int rfl, leC_int rfl, leC_int rfl, leC_bool rfl⟩)
     . refine casts_snoc fun j hj => ?_
       rcases j with _ | _ | _ | j
       . exact leC_int rfl
       . exact leC_int rfl
       . refine leC_os_sl rfl rfl rfl rfl (Nat.le_of_eq (Nat.zero_add _)) fun q hq j hj => ?_
         show LeC _ (rowF eB (s.H.getD s.k default).data (0 + q) j) (rowF eB (s.H.getD s.k default).data q j)
         exact leC_int (congrArg (fun z => (s.H.getD s.k default).data.getD z default) (Nat.zero_add q))
       . omega
   . conv => whnf
     refine ⟨s.next hkn (s.H.set s.k { s.H.getD s.k default with tm := T.1 }) s.Z (by rw [<- eh, one_yes (by assumption) eT]) (by rw [<- eh, one_yes (by assumption) eT, if_neg (by rw [hc]; simp)]; exact List.append_nil _), [], by dsimp only [InI.next]; omega, rfl, ⟨leF_int rfl, leF_int rfl, leF_c (leC_os rfl rfl), leF_c (leC_os rfl rfl), leF_int w5, leF_int rfl, leF_int rfl, leF_int rfl, leF_int rfl, leF_int w4, trivial⟩, ⟨⟨rfl, leN_entP (by omega) (lt8 rfl rfl rfl rfl rfl rfl rfl rfl)⟩, ⟨rfl, leN_entN⟩, ⟨rfl, leN_entN⟩, ⟨rfl, leN_entN⟩, ⟨rfl, leN_entN⟩, ⟨rfl, leN_entN⟩, ⟨rfl, leN_entN⟩, ⟨rfl, leN_entN⟩, ⟨rfl, leN_oneH ?_⟩, ⟨rfl, leN_entN⟩, trivial⟩⟩
     exact hel_row2 (by rw [hl]; exact hkn) (lt8c ⟨leC_int rfl, leC_int rfl, leC_int rfl, leC_int rfl, leC_int rfl, leC_int rfl, leC_int rfl, leC_bool rfl⟩)
   . conv => whnf
     exact ⟨s.next hkn s.H s.Z (by rw [<- eh, one_no hc]; exact setH_self (by rw [hl]; exact hkn)) (by rw [<- eh, one_no hc]; exact List.append_nil _), [], by dsimp only [InI.next]; omega, rfl, ⟨leF_int rfl, leF_int rfl, leF_c (leC_os rfl rfl), leF_c (leC_os rfl rfl), leF_int w5, leF_int rfl, leF_int rfl, leF_int rfl, leF_int rfl, leF_int w4, trivial⟩, ⟨⟨rfl, leN_entP (by omega) (lt8 rfl rfl rfl rfl rfl rfl rfl rfl)⟩, ⟨rfl, leN_entN⟩, ⟨rfl, leN_entN⟩, ⟨rfl, leN_entN⟩, ⟨rfl, leN_entN⟩, ⟨rfl, leN_entN⟩, ⟨rfl, leN_entN⟩, ⟨rfl, leN_entN⟩, ⟨rfl, leN_entN⟩, ⟨rfl, leN_entN⟩, trivial⟩⟩
 . obtain ⟨l1, l2⟩ := s.last hkn
   have hkk := s.hk
   have w6 : IntKind.i64.wrap ((7 : Int) + 1) = ((7 + 1 : Nat) : Int) := rfl
   repeat' (first | (apply And.intro <;> intro hc <;> (first | exact Bool.noConfusion hc | (exfalso; first | exact absurd rfl hc | omega) | (simp only [zb0, ne_eq, not_true_eq_false] at hc <;> first | exact absurd rfl hc | (exfalso; first | exact absurd rfl hc | omega) | skip) | skip)) | (refine And.intro zp1 ?_) | (apply And.intro) | (intro s hs; skip) | (refine Exists.intro _ (And.intro ⟨rfl, rfl, rfl⟩ ?_)))
   conv => whnf
   refine ⟨s', [], by show M0.length - s'.i < _; rw [f4]; omega, rfl, ⟨leF_int rfl, leF_int rfl, leF_c (leC_os rfl (by rw [f1, List.length_set])), leF_c (leC_os rfl (by rw [f2, l2])), leF_int (by rw [f3]; omega), leF_int rfl, leF_int (by rw [f4]; rfl), trivial⟩, ⟨⟨rfl, ⟨rfl, by show _ = s'.M.length; rw [f1, List.length_set]; rfl, rfl, rfl, fun p hp j hj => ?_⟩⟩, ⟨rfl, leN_eqN (by rw [f1]; exact congrArg Sed.held (set_ne (by decide)).symm)⟩, ⟨rfl, leN_eqN (by rw [f1]; exact congrArg Sed.held (set_ne (by decide)).symm)⟩, ⟨rfl, leN_eqN (by rw [f1]; exact congrArg Sed.held (set_ne (by decide)).symm)⟩, ⟨rfl, leN_eqN (by rw [f1]; exact congrArg Sed.held (set_ne (by decide)).symm)⟩, ⟨rfl, leN_eqN (by rw [f1]; exact congrArg Sed.held (set_ne (by decide)).symm)⟩, ⟨rfl, leN_eqN (by rw [f1]; exact congrArg Sed.held (set_ne (by decide)).symm)⟩, ⟨rfl, leN_eqN (by rw [f1]; exact congrArg Sed.held (set_ne (by decide)).symm)⟩, ⟨rfl, leN_eqN (by rw [f1, set_at hiM]; exact l1)⟩, ⟨rfl, leN_eqZ (by rw [f2, l2])⟩, trivial⟩⟩
   have hp : p < M.length := hp
   have hj : j < 3 := hj
   show LeC _ (rowP 2 M p j) (rowP 2 s'.M p j)
   rw [f1]
   rcases (show p = 0 \/ p = 1 \/ p = 2 \/ p = 3 \/ p = 4 \/ p = 5 \/ p = 6 \/ p = 7 by omega) with rfl | rfl | rfl | rfl | rfl | rfl | rfl | rfl
   all_goals first
    | exact rowP_set_ne hj (by decide) rfl rfl
    | skip
   refine rowP_set_at hiM ?_
   rcases j with _ | _ | _ | j
   . exact leC_int rfl
   . exact leC_int rfl
   . exact leC_os rfl runH_len.symm
   . omega
theorem st2_all (M0 : List Sed) (now draw : Int) (hm : ∀ s ∈ M0, SdOk s) (h8 : M0.length <= 8) (hd : drawOk draw) (ht : 0 <= now /\ now <= 1099511627776) (s : StI M0 now draw) (hil : s.i < M0.length) (K : Kt) :
 exec T (mkQ LMs) 1024 Try.f21.ntmps 0 (loopIn (dropC 5 (Try.f21.body.getD Code.ret))) (S2 M0 now draw s).fr (S2 M0 now draw s).H (S2 M0 now draw s).nx (seqK (fun fr H _ => Goes (S2 M0 now draw) (fun s => M0.length - s.i) 0 (M0.length - s.i) fr H) K) := by
 rcases (show s.i = 0 \/ s.i = 1 \/ s.i = 2 \/ s.i = 3 \/ s.i = 4 \/ s.i = 5 \/ s.i = 6 \/ s.i = 7 by omega) with h | h | h | h | h | h | h | h
 . exact st2_0 M0 now draw hm h8 hd ht s h hil K
 . exact st2_1 M0 now draw hm h8 hd ht s h hil K
 . exact st2_2 M0 now draw hm h8 hd ht s h hil K
 . exact st2_3 M0 now draw hm h8 hd ht s h hil K
 . exact st2_4 M0 now draw hm h8 hd ht s h hil K
 . exact st2_5 M0 now draw hm h8 hd ht s h hil K
 . exact st2_6 M0 now draw hm h8 hd ht s h hil K
 . exact st2_7 M0 now draw hm h8 hd ht s h hil K
theorem fin2_err {R : List Sed × List Cas × Int} {k : Int} {H : Hp} (h : R = ([], [], k)) : FinNs (.tup [.c (.os 0 0 R.1.length), .c (.os 1 0 R.2.1.length), .c (.int .i64 R.2.2)]) [entN neS 78 R.1, entN neC 32 R.2.1] (.tup [.c .nils, .c .nils, .c (.int .i64 k)]) H := by
 subst h
 exact ⟨⟨[(0, none), (1, none)], rfl, leF_tup ⟨leC_nils_os rfl, leC_nils_os rfl, leC_int rfl, trivial⟩, ⟨⟨rfl, rfl, rfl, Nat.le_of_ble_eq_true rfl⟩, ⟨rfl, rfl, rfl, Nat.le_of_ble_eq_true rfl⟩, trivial⟩⟩⟩
def StI.start (M0 : List Sed) (now draw : Int) : StI M0 now draw := ⟨0, M0, [], 0, rfl, Nat.zero_le _, Nat.le_refl _, Nat.le_refl _, fun _ _ => rfl, rfl, rfl⟩
theorem StI.last {M0 : List Sed} {now draw : Int} (s : StI M0 now draw) (h : ¬ s.i < M0.length) : s.M = (runL now draw M0 0).1 /\ s.Z = (runL now draw M0 0).2 := by
 have hk := s.hi
 have e1 := s.r1
 have e2 := s.r2
 rw [List.drop_of_length_le (by omega)] at e1 e2
 rw [List.take_of_length_le (by rw [s.n]; omega)] at e1
 rw [<- e1, <- e2]
 exact ⟨(List.append_nil _).symm, (List.append_nil _).symm⟩
theorem give_held {c : Wc} {L : List Sed} {p : Nat} {t : TypeId} {k : Nat} (hd : hget c.H k = some (entN neH t (L.getD p default).held)) (hk : c.dead k = true) : LeC c (.os k 0 (L.getD p default).held.length) (slN neH (L.getD p default).held) := by
 refine leC_os_sl hd hk rfl rfl (Nat.le_of_eq (Nat.zero_add _)) fun q hq j hj => ?_
 show LeC c (rowN neH (L.getD p default).held (0 + q) j) (rowN neH (L.getD p default).held q j)
 rw [Nat.zero_add]
 exact (neH.sh _ j hj).le
theorem give_rowP {c : Wc} {d : Nat} {L : List Sed} {p j : Nat} {t : TypeId} (hj : j < 3) (hd : hget c.H (d + p) = some (entN neH t (L.getD p default).held)) (hk : c.dead (d + p) = true) : LeC c (rowP d L p j) (rowN neS L p j) := by
 rcases j with _ | _ | _ | j
 . exact leC_int rfl
 . exact leC_int rfl
 . exact give_held hd hk
 . omega
theorem mstep2 (M0 : List Sed) (now draw : Int) (hm : ∀ s ∈ M0, SdOk s) (h8 : M0.length <= 8) (hd : drawOk draw) (ht : 0 <= now /\ now <= 1099511627776) (R : List Sed × List Cas × Int) (hR : R = ((runL now draw M0 0).1, (runL now draw M0 0).2, 0)) :
 Sem Try.prog Try.f21.ntmps 0 (dropC 5 (Try.f21.body.getD Code.ret)) (S8 now draw M0).fr (S8 now draw M0).H (S8 now draw M0).nx (endH T Try.f21.results.toList fun x H _ => FinNs (.tup [.c (.os 0 0 R.1.length), .c (.os 1 0 R.2.1.length), .c (.int .i64 R.2.2)]) [entN neS 78 R.1, entN neC 32 R.2.1] x H) := by
 refine sem_exec (wd := 1024) (Q := mkQ LMs) (by decide) tysOk (q_of LMs_ok) mixed ?_
 unfold S8
 repeat' (first | (apply And.intro <;> intro hc <;> (first | exact Bool.noConfusion hc | (exfalso; first | exact absurd rfl hc | omega) | (simp only [zb0, ne_eq, not_true_eq_false] at hc <;> first | exact absurd rfl hc | (exfalso; first | exact absurd rfl hc | omega) | skip) | skip)) | (refine And.intro zp1 ?_) | (apply And.intro) | (intro s hs; skip) | (refine Exists.intro _ (And.intro ⟨rfl, rfl, rfl⟩ ?_)))
 conv => whnf
 refine loop_intro (mono_of LMs_ok) (S2 M0 now draw) (fun s => M0.length - s.i) (fun _ => rfl) ?_ (StI.start M0 now draw) [(10, none)] ⟨rfl, ⟨leF_int rfl, leF_int rfl, leF_c (leC_os rfl rfl), leF_c (leC_nils_os rfl), leF_int rfl, leF_int rfl, leF_int rfl, trivial⟩, ⟨⟨rfl, leN_entP (by omega) (lt8 rfl rfl rfl rfl rfl rfl rfl rfl)⟩, ⟨rfl, leN_entN⟩, ⟨rfl, leN_entN⟩, ⟨rfl, leN_entN⟩, ⟨rfl, leN_entN⟩, ⟨rfl, leN_entN⟩, ⟨rfl, leN_entN⟩, ⟨rfl, leN_entN⟩, ⟨rfl, leN_entN⟩, ⟨rfl, rfl, rfl, Nat.le_of_ble_eq_true rfl⟩, trivial⟩⟩
 intro s
 by_cases hil : s.i < M0.length
 . exact st2_all M0 now draw hm h8 hd ht s hil _
 . obtain ⟨l1, l2⟩ := s.last hil
   have hML := s.n
   unfold S2
   repeat' (first | (apply And.intro <;> intro hc <;> (first | exact Bool.noConfusion hc | (exfalso; first | exact absurd rfl hc | omega) | (simp only [zb0, ne_eq, not_true_eq_false] at hc <;> first | exact absurd rfl hc | (exfalso; first | exact absurd rfl hc | omega) | skip) | skip)) | (refine And.intro zp1 ?_) | (apply And.intro) | (intro s hs; skip) | (refine Exists.intro _ (And.intro ⟨rfl, rfl, rfl⟩ ?_)))
   subst hR
   refine ⟨[(0, some 1), (1, some 10)], rfl, leF_tup ⟨leC_os rfl (by rw [l1]), leC_os rfl (by rw [l2]), leC_int rfl, trivial⟩, ⟨⟨rfl, ⟨rfl, by show s.M.length = _; rw [l1]; rfl, rfl, rfl, fun p hp j hj => ?_⟩⟩, ⟨rfl, leN_eqZ l2⟩, trivial⟩⟩
   have hp : p < s.M.length := hp
   have hj : j < 3 := hj
   show LeC _ (rowP 2 s.M p j) (rowN neS (runL now draw M0 0).1 p j)
   rw [<- l1]
   rcases (show p = 0 \/ p = 1 \/ p = 2 \/ p = 3 \/ p = 4 \/ p = 5 \/ p = 6 \/ p = 7 by omega) with rfl | rfl | rfl | rfl | rfl | rfl | rfl | rfl
   all_goals exact give_rowP hj rfl rfl
theorem mstep1 (L : List Sed) (now draw : Int) (hL : LHn L) (hdr : drawOk draw) : NewsOk Try.prog 21 [(cNS neS neS_sz).enc L, (cI .i64).enc now, (cI .u32).enc draw] (.tup [.c (.os 0 0 (mstepF L now draw).1.length), .c (.os 1 0 (mstepF L now draw).2.1.length), .c (.int .i64 (mstepF L now draw).2.2)]) [entN neS 78 (mstepF L now draw).1, entN neC 32 (mstepF L now draw).2.1] := by
 obtain ⟨R, hR⟩ : ∃ R, mstepF L now draw = R := ⟨_, rfl⟩
 rw [hR]
 obtain ⟨V, hV⟩ : ∃ V, validL L = V := ⟨_, rfl⟩
 obtain ⟨B, hB⟩ : ∃ B, isTimeT now = B := ⟨_, rfl⟩
 refine news_introS tysOk Try.func21 rfl _ (by show 3 <= _; decide) ?_
 refine sem_step (wd := 1) (Q := mkQ LMs) (by decide) tysOk (q_of LMs_ok) mixed ?_
 refine sem_step (wd := 1) (Q := mkQ LMs) (by decide) tysOk (q_of LMs_ok) mixed ?_
 repeat' (first | (apply And.intro <;> intro hc <;> (first | exact Bool.noConfusion hc | (exfalso; first | exact absurd rfl hc) | (simp only [zb0, ne_eq, not_true_eq_false] at hc <;> first | exact absurd rfl hc | (exfalso; first | exact absurd rfl hc) | skip) | skip)) | (refine And.intro zp1 ?_) | (apply And.intro) | (intro s hs; (have q : V = s := rd_validL hs (toN_row neS_rd _) hV; clear hs; subst q)) | (refine Exists.intro _ (And.intro ⟨rfl, rfl, rfl⟩ ?_)))
 . exact fun _ _ => ⟨rfl, okHs_sl _⟩
 . exact Eq.mpr (congrArg LHn (toN_row neS_rd _)) hL
 . exact fin2_err (by rw [<- hR]; unfold mstepF; rw [if_pos (hV.trans (by assumption))])
 have hVt : validL L = true := hV.trans (by assumption)
 refine sem_step (wd := 1) (Q := mkQ LMs) (by decide) tysOk (q_of LMs_ok) mixed ?_
 repeat' (first | (apply And.intro <;> intro hc <;> (first | exact Bool.noConfusion hc | (exfalso; first | exact absurd rfl hc) | (simp only [zb0, ne_eq, not_true_eq_false] at hc <;> first | exact absurd rfl hc | (exfalso; first | exact absurd rfl hc) | skip) | skip)) | (refine And.intro zp1 ?_) | (apply And.intro) | (intro s hs; (have q : B = s := hB.symm.trans hs.symm; clear hs; subst q)) | (refine Exists.intro _ (And.intro ⟨rfl, rfl, rfl⟩ ?_)))
 . exact fin2_err (by rw [<- hR]; unfold mstepF; rw [if_neg (by rw [hVt]; simp), if_pos (hB.trans (by assumption))])
 have hBt : isTimeT now = true := hB.trans (by assumption)
 refine sem_step (wd := 9) (Q := mkQ LMs) (by decide) tysOk (q_of LMs_ok) mixed ?_
 repeat' (first | (apply And.intro <;> intro hc <;> (first | exact Bool.noConfusion hc | (exfalso; first | exact absurd rfl hc) | (simp only [zb0, ne_eq, not_true_eq_false] at hc <;> first | exact absurd rfl hc | (exfalso; first | exact absurd rfl hc) | skip) | skip)) | (refine And.intro zp1 ?_) | (apply And.intro) | (intro s hs; (have q : L = s := (hs.trans (toN_row neS_rd _)).symm; clear hs; subst q)) | (refine Exists.intro _ (And.intro ⟨rfl, rfl, rfl⟩ ?_)))
 . exact fun _ _ => ⟨rfl, okHs_sl _⟩
 . exact Eq.mpr (congrArg Cl8 (toN_row neS_rd _)) (vl_c8 hVt)
 change Sem _ _ _ _ _ _ _ _
 refine sem_cut (wd := 1024) (Q := mkQ LMs) (by decide) tysOk (q_of LMs_ok) (mono_of LMs_ok) mixed (fun _ : Unit => S8 now draw (L.map (clsS now))) (by intro _; rfl) ?_ ?_
 . repeat' (first | (apply And.intro <;> intro hc <;> (first | exact Bool.noConfusion hc | (exfalso; first | exact absurd rfl hc) | (simp only [zb0, ne_eq, not_true_eq_false] at hc <;> first | exact absurd rfl hc | (exfalso; first | exact absurd rfl hc) | skip) | skip)) | (refine And.intro zp1 ?_) | (apply And.intro) | (intro s hs; skip) | (refine Exists.intro _ (And.intro ⟨rfl, rfl, rfl⟩ ?_)))
   conv => whnf
   refine loop_intro (mono_of LMs_ok) (S1 L now draw) (fun s => L.length - s.i) (fun _ => rfl) ?_ ⟨0, L, rfl, Nat.zero_le _, fun p hp => absurd hp (Nat.not_lt_zero p), fun _ _ => rfl⟩ [(1, some 18), (2, some 19), (3, some 20), (4, some 21), (5, some 22), (6, some 23), (7, some 24), (8, some 25), (9, some 26)] ⟨rfl, ⟨leF_int rfl, leF_int rfl, leF_c (leC_os rfl rfl), leF_int rfl, leF_int rfl, trivial⟩, ⟨⟨rfl, ⟨rfl, rfl, rfl, rfl, fun p hp j hj => rowP_le hj (lt8 (P := fun p => Wc.src _ (2 + p) = some (19 + p)) rfl rfl rfl rfl rfl rfl rfl rfl p (Nat.lt_of_lt_of_le hp (vl_len hVt)))⟩⟩, ⟨rfl, leN_entN⟩, ⟨rfl, leN_entN⟩, ⟨rfl, leN_entN⟩, ⟨rfl, leN_entN⟩, ⟨rfl, leN_entN⟩, ⟨rfl, leN_entN⟩, ⟨rfl, leN_entN⟩, ⟨rfl, leN_entN⟩, trivial⟩⟩
   intro s
   by_cases hil : s.i < L.length
   . exact st1_all L now draw hVt s hil _
   . have eM := sl_end s hil
     have hML : s.M.length = L.length := s.n
     unfold S1
     repeat' (first | (apply And.intro <;> intro hc <;> (first | exact Bool.noConfusion hc | (exfalso; first | exact absurd rfl hc | omega) | (simp only [zb0, ne_eq, not_true_eq_false] at hc <;> first | exact absurd rfl hc | (exfalso; first | exact absurd rfl hc | omega) | skip) | skip)) | (refine And.intro zp1 ?_) | (apply And.intro) | (intro s hs; skip) | (refine Exists.intro _ (And.intro ⟨rfl, rfl, rfl⟩ ?_)))
     conv => whnf
     rw [<- eM]
     exact ⟨(), [], rfl, ⟨leF_int rfl, leF_int rfl, leF_c (leC_os rfl rfl), trivial⟩, ⟨⟨rfl, leN_entP (by have := vl_len hVt; omega) (lt8 rfl rfl rfl rfl rfl rfl rfl rfl)⟩, ⟨rfl, leN_entN⟩, ⟨rfl, leN_entN⟩, ⟨rfl, leN_entN⟩, ⟨rfl, leN_entN⟩, ⟨rfl, leN_entN⟩, ⟨rfl, leN_entN⟩, ⟨rfl, leN_entN⟩, ⟨rfl, leN_entN⟩, trivial⟩⟩
 . intro _
   have hRe : R = ((runL now draw (L.map (clsS now)) 0).1, (runL now draw (L.map (clsS now)) 0).2, 0) := by
    rw [<- hR]; unfold mstepF; rw [if_neg (by rw [hVt]; simp), if_neg (by rw [hBt]; simp)]
   exact mstep2 _ now draw (fun x hx => by obtain ⟨y, hy, rfl⟩ := List.mem_map.1 hx; exact cls_ok (vl_mem hVt y hy).2) (by rw [List.length_map]; exact vl_len hVt) hdr (isTimeT_iff.1 hBt) R hRe
def SftE (m d : Nat) (x y : EV) : Prop := ∀ (r r2 : Ren) (X W X2 W2 : Nat -> Prop) (w : World) (v : Value), (∀ k, k < m -> r2 (d + k) = r k) -> (∀ b, X2 b -> X b \/ W b) -> (∀ b, W2 b -> X b \/ W b) -> x.rel r X W w v -> y.rel r2 X2 W2 w v
theorem sftE_c {m d : Nat} {x y : CV} (h : Sft m d x y) : SftE m d (.c x) (.c y) := fun r r2 X W X2 W2 w v hr hX hW hx => h r r2 X W X2 W2 w v hr hX hW hx
theorem sftF_tup {m d : Nat} {l l' : List EV} (hl : l.length = l'.length) (h : ∀ (i : Nat) x y, l[i]? = some x -> l'[i]? = some y -> SftE m d x y) : SftF m d (.tup l) (.tup l') := by
 rintro r r2 X W X2 W2 w v hr hX hW ⟨vs, rfl, hs, hc⟩
 refine ⟨vs, rfl, by rw [hs, hl], fun i y u hy hu => ?_⟩
 have hi : i < l.length := by rw [hl]; exact (List.getElem?_eq_some_iff.1 hy).1
 exact h i _ y (List.getElem?_eq_getElem hi) hy r r2 X W X2 W2 w u hr hX hW (hc i _ u (List.getElem?_eq_getElem hi) hu)
abbrev mstepE : Entry := newsE (AC.cons (cNS neS neS_sz) (AC.cons (cI .i64) (AC.cons (cI .u32) AC.nil))) (fun a => LHn a.1 /\ drawOk a.2.2.1) (fun a => mstepF a.1 a.2.1 a.2.2.1) 2 (fun nm R => .tup [.c (.os nm 0 R.1.length), .c (.os (nm + 1) 0 R.2.1.length), .c (.int .i64 R.2.2)]) (fun _ R => [entN neS 78 R.1, entN neC 32 R.2.1])
theorem mstepE_ok : EntOk Try.prog 21 mstepE := newsE_ok ⟨_, Try.func21, rfl, by kernel_rfl⟩ (fun _ _ => rfl) (fun nm s => sftF_tup rfl fun i x y hx hy => by
 rcases i with _ | _ | _ | i
 . injection hx with hx; injection hy with hy; subst hx hy
   exact sftE_c (by have h : Sft 2 nm (.os 0 0 s.1.length) (.os (nm + 0) 0 s.1.length) := sft_os (by decide); exact h)
 . injection hx with hx; injection hy with hy; subst hx hy
   exact sftE_c (by have h : Sft 2 nm (.os 1 0 s.2.1.length) (.os (nm + 1) 0 s.2.1.length) := sft_os (by decide); exact h)
 . injection hx with hx; injection hy with hy; subst hx hy
   exact sftE_c sft_int
 . cases hx) (fun nm a ha k e e' h h' => by
 iterate 2 (rcases k with _ | k; · (injection h with h; injection h' with h'; subst h h'; first | exact ⟨rfl, rfl, rfl, rfl, fun i hi j hj => sft_sh (neS.sh _ j hj)⟩ | exact ⟨rfl, rfl, rfl, rfl, fun i hi j hj => sft_sh (neC.sh _ j hj)⟩))
 cases h) fun a h => mstep1 a.1 a.2.1 a.2.2.1 h.1 h.2
structure MapI {α : Type} [Inhabited α] (f : α -> α) (L : List α) where
 i : Nat
 M : List α
 n : M.length = L.length
 hi : i <= L.length
 h1 : ∀ p, p < i -> M.getD p default = f (L.getD p default)
 h2 : ∀ p, i <= p -> M.getD p default = L.getD p default
theorem gset_ne {α : Type} [Inhabited α] {L : List α} {a p : Nat} {s : α} (h : p ≠ a) : (L.set a s).getD p default = L.getD p default := by
 rw [List.getD_eq_getElem?_getD, List.getD_eq_getElem?_getD, List.getElem?_set, if_neg (Ne.symm h)]
theorem gset_at {α : Type} [Inhabited α] {L : List α} {a : Nat} {s : α} (h : a < L.length) : (L.set a s).getD a default = s := by
 rw [List.getD_eq_getElem?_getD, List.getElem?_set, if_pos rfl, if_pos h]; rfl
theorem gset_self {α : Type} [Inhabited α] {L : List α} {i : Nat} (h : i < L.length) : L.set i (L.getD i default) = L := by
 apply List.ext_getElem
 . rw [List.length_set]
 . intro k h1 h2
   rw [List.getElem_set]
   split
   . rename_i e
     subst e
     rw [List.getD_eq_getElem?_getD, List.getElem?_eq_getElem h]; rfl
   . rfl
def MapI.start {α : Type} [Inhabited α] (f : α -> α) (L : List α) : MapI f L := ⟨0, L, rfl, Nat.zero_le _, fun p hp => absurd hp (Nat.not_lt_zero p), fun _ _ => rfl⟩
def MapI.next {α : Type} [Inhabited α] {f : α -> α} {L : List α} (s : MapI f L) (h : s.i < L.length) (M' : List α) (hM : s.M.set s.i (f (L.getD s.i default)) = M') : MapI f L where
 i := s.i + 1
 M := M'
 n := by rw [<- hM, List.length_set]; exact s.n
 hi := h
 h1 p hp := by
  rw [<- hM]
  by_cases he : p = s.i
  . subst he; exact gset_at (by rw [s.n]; exact h)
  . rw [gset_ne he]; exact s.h1 p (by omega)
 h2 p hp := by rw [<- hM, gset_ne (by omega)]; exact s.h2 p (by omega)
theorem MapI.last {α : Type} [Inhabited α] {f : α -> α} {L : List α} (s : MapI f L) (h : ¬ s.i < L.length) : s.M = L.map f := by
 apply List.ext_getElem
 . rw [List.length_map]; exact s.n
 . intro k h1 h2
   have hk : k < L.length := by rw [<- s.n]; exact h1
   have e := s.h1 k (by omega)
   rw [List.getD_eq_getElem?_getD, List.getElem?_eq_getElem h1, List.getD_eq_getElem?_getD, List.getElem?_eq_getElem hk] at e
   rw [List.getElem_map]
   exact e
abbrev lacksE : Entry := pureE (AC.cons (cNS neS neS_sz) (AC.cons (cE eSm) AC.nil)) (fun a => LkI a.1 a.2.1) (fun a => lacksF a.1 a.2.1) cB.enc
def LMq : CsL := (31, some mvalidE) :: (32, some timeE) :: (34, some clone8E) :: (51, some vsmsE) :: (52, some hasE) :: (54, some lacksE) :: LTk
theorem LMq_ok : AllOk Try.prog LMq := ⟨pureE_ok ⟨_, Try.func31, rfl, by kernel_rfl⟩ fun a h => mvalid_ok a.1 h, pureE_ok ⟨_, Try.func32, rfl, by kernel_rfl⟩ fun a _ => mcTime_ok a.1, clone8E_ok, pureE_ok ⟨_, Try.func51, rfl, by kernel_rfl⟩ fun a h => vsms_ok a.1 h, pureE_ok ⟨_, Try.func52, rfl, by kernel_rfl⟩ fun a h => has_ok a.1 a.2.1 h, pureE_ok ⟨_, Try.func54, rfl, by kernel_rfl⟩ fun a h => lacks_ok a.1 a.2.1 h, LTk_ok⟩
def SC (L : List Sed) (S : List Smy) (now draw : Int) (s : MapI (cmpS S now draw) L) : Hd := ⟨[(0, one (slBN neS L)), (1, one (.int .i64 now)), (2, one (slB eSm S)), (3, one (.int .u32 draw)), (11, one (.os 1 0 s.M.length)), (35, one (.int .i64 (L.length : Int))), (36, one (.int .i64 (s.i : Int)))], (1, some (entP 2 s.M.length s.M)) :: hepP 2 s.M, 10⟩
theorem hel_set {l : List Hel} {k : Nat} {h : Hel} {c : Wc} {g : Nat -> CV} (hk : k < l.length) (hg : ∀ j, j < 11 -> LeC c (g j) (neH.cell h j)) : l.length = (l.set k h).length /\ ∀ q, q < (l.set k h).length -> ∀ j, j < 11 -> LeC c (updE false (rowN neH l) k g q j) (rowN neH (l.set k h) q j) := by
 refine ⟨(List.length_set).symm, fun q hq j hj => ?_⟩
 by_cases hqk : q = k
 . subst hqk
   have e : rowN neH (l.set q h) q j = neH.cell h j := congrArg (fun z => neH.cell z j) (gset_at hk)
   rw [e]
   exact selC_in (beq_refl_nat _) (hg j hj)
 . have e : rowN neH (l.set k h) q j = rowN neH l q j := congrArg (fun z => neH.cell z j) (gset_ne hqk)
   rw [e, updE_ne hqk]
   exact (neH.sh _ j hj).le
theorem lt11c {P : Nat -> Prop} (h : P 0 /\ P 1 /\ P 2 /\ P 3 /\ P 4 /\ P 5 /\ P 6 /\ P 7 /\ P 8 /\ P 9 /\ P 10) : ∀ j, j < 11 -> P j := fun j hj => by
 obtain ⟨h0, h1, h2, h3, h4, h5, h6, h7, h8, h9, h10⟩ := h
 rcases (show j = 0 \/ j = 1 \/ j = 2 \/ j = 3 \/ j = 4 \/ j = 5 \/ j = 6 \/ j = 7 \/ j = 8 \/ j = 9 \/ j = 10 by omega) with rfl | rfl | rfl | rfl | rfl | rfl | rfl | rfl | rfl | rfl | rfl <;> assumption
theorem cmp_yes {m : Smy} {now draw : Int} {h : Hel} {T : Trk × Int} (h1 : m.mn <= h.num) (h2 : hasB m h.num = false) (eT : resetT h.tm now draw = T) : cmpH m now draw h = { h with tm := T.1 } := by
 subst eT; exact if_pos ⟨h1, h2⟩
theorem cmp_no1 {m : Smy} {now draw : Int} {h : Hel} (h1 : ¬ m.mn <= h.num) : cmpH m now draw h = h := if_neg fun g => h1 g.1
theorem cmp_no2 {m : Smy} {now draw : Int} {h : Hel} (h1 : hasB m h.num = true) : cmpH m now draw h = h := if_neg fun g => by rw [h1] at g; cases g.2
theorem cp_0 (L : List Sed) (S : List Smy) (now draw : Int) (hv : validL L = true) (hS : validSms S = true) (hd : drawOk draw) (ht : 0 <= now /\ now <= 1099511627776) (s : MapI (cmpS S now draw) L) (hi : s.i = 0) (hil : s.i < L.length) (K : Kt) :
 exec T (mkQ LMq) 1 Try.f29.ntmps 0 (loopIn (dropC 4 (Try.f29.body.getD Code.ret))) (SC L S now draw s).fr (SC L S now draw s).H (SC L S now draw s).nx (seqK (fun fr H _ => Goes (SC L S now draw) (fun s => L.length - s.i) 0 (L.length - s.i) fr H) K) := by
 have h8 := vl_len hv
 obtain ⟨hS8, hSm⟩ := vys hS
 have hX : SdOk (L.getD s.i default) := (vl_mem hv _ (getD_in hil)).2
 obtain ⟨s', es'⟩ : ∃ s', s.next hil _ rfl = s' := ⟨_, rfl⟩
 have f1 : s'.M = s.M.set s.i (cmpS S now draw (L.getD s.i default)) := by rw [<- es']; rfl
 have f4 : s'.i = s.i + 1 := by rw [<- es']; rfl
 clear es'
 obtain ⟨i, M, hn, hi0, h1, h2⟩ := s
 dsimp only at hi hil hX f1 f4
 subst hi
 have hiM : 0 < M.length := by omega
 have e0 := h2 0 (Nat.le_refl _)
 rw [<- e0] at hX f1
 have hk := hX.n
 have hmn := hX.mn
 unfold SC
 dsimp only
 clear h1 h2 e0
 repeat' (first | (apply And.intro <;> intro hc <;> (first | exact Bool.noConfusion hc | (exfalso; first | exact absurd rfl hc | omega) | (simp only [zb0, ne_eq, not_true_eq_false] at hc <;> first | exact absurd rfl hc | (exfalso; first | exact absurd rfl hc | omega) | skip) | skip)) | (refine And.intro zp1 ?_) | (apply And.intro) | (intro s hs; skip) | (refine Exists.intro _ (And.intro ⟨rfl, rfl, rfl⟩ ?_)))
 conv => whnf
 obtain ⟨W, eW⟩ : ∃ W, pickF (M.getD 0 default).id S ⟨0, 0, 0⟩ = W := ⟨_, rfl⟩
 refine loop_intro (mono_of LMq_ok) (fun s : {p : Nat × Smy // p.1 <= S.length /\ pickF (M.getD 0 default).id (S.drop p.1) p.2 = W} => (⟨[(0, one (slBN neS L)), (1, one (.int .i64 now)), (2, one (slB eSm S)), (3, one (.int .u32 draw)), (11, one (.os 1 0 M.length)), (35, one (.int .i64 (L.length : Int))), (36, one (.int .i64 ((0 : Nat) : Int))), (12, one (.int .i64 ((0 : Nat) : Int))), (13, one (.ptr 10 0 0 false)), (39, one (slB eSm S)), (40, one (.int .i64 (S.length : Int))), (41, one (.int .i64 (s.1.1 : Int)))], [(1, some (entP 2 M.length M)), (2, some (entH (M.getD 0 default).held)), (3, some (entH (M.getD 1 default).held)), (4, some (entH (M.getD 2 default).held)), (5, some (entH (M.getD 3 default).held)), (6, some (entH (M.getD 4 default).held)), (7, some (entH (M.getD 5 default).held)), (8, some (entH (M.getD 6 default).held)), (9, some (entH (M.getD 7 default).held)), (10, some ⟨60, 1, 3, true, fun _ => eSm.cell s.1.2⟩)], 11⟩ : Hd)) (fun s => S.length - s.1.1) (fun _ => rfl) ?_ ⟨(0, ⟨0, 0, 0⟩), Nat.zero_le _, eW⟩ [(10, some 13)] ⟨rfl, ⟨leF_c (leC_cl (cl_slBN L)), leF_int rfl, leF_cl (cl_slB eSm S), leF_int rfl, leF_c (leC_os rfl rfl), leF_int rfl, leF_int rfl, leF_int rfl, leF_ptr rfl, leF_cl (cl_slB eSm S), leF_int rfl, leF_int rfl, trivial⟩, ⟨⟨rfl, leN_entP (by omega) (lt8 rfl rfl rfl rfl rfl rfl rfl rfl)⟩, ⟨rfl, leN_entN⟩, ⟨rfl, leN_entN⟩, ⟨rfl, leN_entN⟩, ⟨rfl, leN_entN⟩, ⟨rfl, leN_entN⟩, ⟨rfl, leN_entN⟩, ⟨rfl, leN_entN⟩, ⟨rfl, leN_entN⟩, ⟨rfl, leN_varA (lt3c ⟨leC_int rfl, leC_int rfl, leC_int rfl⟩)⟩, trivial⟩⟩
 rintro ⟨⟨p, a⟩, hp, hW⟩
 dsimp only at hp hW ⊢
 unfold slB
 by_cases hpl : p < S.length
 . have w4 : IntKind.i64.wrap ((p : Int) + 1) = ((p + 1 : Nat) : Int) := (IntWalk.i64_in _ (by omega)).trans (by omega)
   have hst : pickF (M.getD 0 default).id (S.drop (p + 1)) (if (S.getD p default).id = (M.getD 0 default).id then S.getD p default else a) = W := by rw [<- hW, drop_at hpl]; rfl
   have n1 : (S.getD p default).id = (M.getD 0 default).id -> pickF (M.getD 0 default).id (S.drop (p + 1)) (S.getD p default) = W := fun h => by rw [if_pos h] at hst; exact hst
   have n2 : ¬ (S.getD p default).id = (M.getD 0 default).id -> pickF (M.getD 0 default).id (S.drop (p + 1)) a = W := fun h => by rw [if_neg h] at hst; exact hst
   clear hst
   repeat' (first | (simp only [w4]) | (apply And.intro <;> intro hc <;> (first | exact Bool.noConfusion hc | (exfalso; first | exact absurd rfl hc | omega) | (simp only [zb0, ne_eq, not_true_eq_false] at hc <;> first | exact absurd rfl hc | (exfalso; first | exact absurd rfl hc | omega) | skip) | skip)) | (refine And.intro zp1 ?_) | (apply And.intro) | (intro s hs; skip) | (refine Exists.intro _ (And.intro ⟨rfl, rfl, rfl⟩ ?_)))
   . conv => whnf
     exact ⟨⟨(p + 1, _), hpl, n1 hc⟩, [], by dsimp only; omega, rfl, ⟨leF_c (leC_cl (cl_slBN L)), leF_int rfl, leF_cl (cl_slB eSm S), leF_int rfl, leF_c (leC_os rfl rfl), leF_int rfl, leF_int rfl, leF_int rfl, leF_ptr rfl, leF_cl (cl_slB eSm S), leF_int rfl, leF_int w4, trivial⟩, ⟨⟨rfl, leN_entP (by omega) (lt8 rfl rfl rfl rfl rfl rfl rfl rfl)⟩, ⟨rfl, leN_entN⟩, ⟨rfl, leN_entN⟩, ⟨rfl, leN_entN⟩, ⟨rfl, leN_entN⟩, ⟨rfl, leN_entN⟩, ⟨rfl, leN_entN⟩, ⟨rfl, leN_entN⟩, ⟨rfl, leN_entN⟩, ⟨rfl, leN_varA (lt3c ⟨leC_int rfl, leC_int rfl, leC_int rfl⟩)⟩, trivial⟩⟩
   . conv => whnf
     exact ⟨⟨(p + 1, a), hpl, n2 hc⟩, [], by dsimp only; omega, rfl, ⟨leF_c (leC_cl (cl_slBN L)), leF_int rfl, leF_cl (cl_slB eSm S), leF_int rfl, leF_c (leC_os rfl rfl), leF_int rfl, leF_int rfl, leF_int rfl, leF_ptr rfl, leF_cl (cl_slB eSm S), leF_int rfl, leF_int w4, trivial⟩, ⟨⟨rfl, leN_entP (by omega) (lt8 rfl rfl rfl rfl rfl rfl rfl rfl)⟩, ⟨rfl, leN_entN⟩, ⟨rfl, leN_entN⟩, ⟨rfl, leN_entN⟩, ⟨rfl, leN_entN⟩, ⟨rfl, leN_entN⟩, ⟨rfl, leN_entN⟩, ⟨rfl, leN_entN⟩, ⟨rfl, leN_entN⟩, ⟨rfl, leN_varA fun j hj => (Elem.flat _ _ _).le⟩, trivial⟩⟩
 . obtain rfl : a = W := by
    rw [List.drop_of_length_le (by omega)] at hW; exact hW
   clear hW
   have hWm : 0 <= a.mn /\ a.mn <= 1073741824 := by rw [<- eW]; exact pick_ok (fun x hx => (hSm x hx).2) ⟨Int.le_refl _, by decide⟩
   repeat' (first | (apply And.intro <;> intro hc <;> (first | exact Bool.noConfusion hc | (exfalso; first | exact absurd rfl hc | omega) | (simp only [zb0, ne_eq, not_true_eq_false] at hc <;> first | exact absurd rfl hc | (exfalso; first | exact absurd rfl hc | omega) | skip) | skip)) | (refine And.intro zp1 ?_) | (apply And.intro) | (intro s hs; skip) | (refine Exists.intro _ (And.intro ⟨rfl, rfl, rfl⟩ ?_)))
   conv => whnf
   refine loop_intro (mono_of LMq_ok) (fun s : MapI (cmpH a now draw) (M.getD 0 default).held => (⟨[(0, one (slBN neS L)), (1, one (.int .i64 now)), (2, one (slB eSm S)), (3, one (.int .u32 draw)), (11, one (.os 1 0 M.length)), (35, one (.int .i64 (L.length : Int))), (36, one (.int .i64 ((0 : Nat) : Int))), (12, one (.int .i64 ((0 : Nat) : Int))), (13, one (.ptr 10 0 0 false)), (60, one (.int .i64 ((M.getD 0 default).held.length : Int))), (61, one (.int .i64 (s.i : Int)))], [(1, some (entP 2 M.length M)), (2, some (entH s.M)), (3, some (entH (M.getD 1 default).held)), (4, some (entH (M.getD 2 default).held)), (5, some (entH (M.getD 3 default).held)), (6, some (entH (M.getD 4 default).held)), (7, some (entH (M.getD 5 default).held)), (8, some (entH (M.getD 6 default).held)), (9, some (entH (M.getD 7 default).held)), (10, some ⟨60, 1, 3, true, fun _ => eSm.cell a⟩)], 11⟩ : Hd)) (fun s => (M.getD 0 default).held.length - s.i) (fun _ => rfl) ?_ (MapI.start _ _) [] ⟨rfl, ⟨leF_c (leC_cl (cl_slBN L)), leF_int rfl, leF_cl (cl_slB eSm S), leF_int rfl, leF_c (leC_os rfl rfl), leF_int rfl, leF_int rfl, leF_int rfl, leF_ptr rfl, leF_int rfl, leF_int rfl, trivial⟩, ⟨⟨rfl, leN_entP (by omega) (lt8 rfl rfl rfl rfl rfl rfl rfl rfl)⟩, ⟨rfl, leN_entN⟩, ⟨rfl, leN_entN⟩, ⟨rfl, leN_entN⟩, ⟨rfl, leN_entN⟩, ⟨rfl, leN_entN⟩, ⟨rfl, leN_entN⟩, ⟨rfl, leN_entN⟩, ⟨rfl, leN_entN⟩, ⟨rfl, leN_varA fun j hj => (Elem.flat _ _ _).le⟩, trivial⟩⟩
   intro s0
   by_cases hkn : s0.i < (M.getD 0 default).held.length
   . have w4 : IntKind.i64.wrap ((s0.i : Int) + 1) = ((s0.i + 1 : Nat) : Int) := (IntWalk.i64_in _ (by omega)).trans (by omega)
     have z0 : 0 + (s0.i : Int).toNat = s0.i := Nat.zero_add s0.i
     have eh := s0.h2 s0.i (Nat.le_refl _)
     have hl := s0.n
     have bk : Nat.beq s0.i s0.i = true := Nat.beq_refl _
     have hx := hels_ok hX (getD_in hkn)
     have hx1 := (vh_mem hX.h _ (getD_in hkn)).1
     rw [<- eh] at hx hx1
     have hxb := hx.b
     obtain ⟨B, eB2⟩ : ∃ B, hasB a (s0.M.getD s0.i default).num = B := ⟨_, rfl⟩
     obtain ⟨T, eT⟩ : ∃ T, resetT (s0.M.getD s0.i default).tm now draw = T := ⟨_, rfl⟩
     repeat' (first | (simp only [z0, w4, bk, Bool.cond_true]) | (apply And.intro <;> intro hc <;> (first | exact Bool.noConfusion hc | (exfalso; first | exact absurd rfl hc | omega) | (simp only [zb0, ne_eq, not_true_eq_false] at hc <;> first | exact absurd rfl hc | (exfalso; first | exact absurd rfl hc | omega) | skip) | skip)) | (refine And.intro zp1 ?_) | (apply And.intro) | (intro s hs; (first | (have q : B = s := eB2.symm.trans hs.symm; clear hs; subst q) | (have q : T = s := eT.symm.trans hs.symm; clear hs; subst q))) | (refine Exists.intro _ (And.intro ⟨rfl, rfl, rfl⟩ ?_)))
     . exact hc
     . conv => whnf
       refine ⟨s0.next hkn (s0.M.set s0.i { s0.M.getD s0.i default with tm := T.1 }) (by rw [<- eh, cmp_yes (by assumption) (eB2.trans (by assumption)) eT]), [], by dsimp only [MapI.next]; omega, rfl, ⟨leF_c (leC_cl (cl_slBN L)), leF_int rfl, leF_cl (cl_slB eSm S), leF_int rfl, leF_c (leC_os rfl rfl), leF_int rfl, leF_int rfl, leF_int rfl, leF_ptr rfl, leF_int rfl, leF_int w4, trivial⟩, ⟨⟨rfl, leN_entP (by omega) (lt8 rfl rfl rfl rfl rfl rfl rfl rfl)⟩, ⟨rfl, leN_oneH ?_⟩, ⟨rfl, leN_entN⟩, ⟨rfl, leN_entN⟩, ⟨rfl, leN_entN⟩, ⟨rfl, leN_entN⟩, ⟨rfl, leN_entN⟩, ⟨rfl, leN_entN⟩, ⟨rfl, leN_entN⟩, ⟨rfl, leN_varA fun j hj => (Elem.flat _ _ _).le⟩, trivial⟩⟩
       exact hel_set (by rw [hl]; exact hkn) (lt11c ⟨leC_int rfl, (neH.sh _ 1 (by decide)).le, leC_int rfl, leC_int rfl, leC_int rfl, leC_int rfl, leC_int rfl, leC_int rfl, leC_int rfl, leC_bool rfl, leC_int rfl⟩)
     . conv => whnf
       exact ⟨s0.next hkn s0.M (by rw [<- eh, cmp_no2 (eB2.trans (by assumption))]; exact gset_self (by rw [hl]; exact hkn)), [], by dsimp only [MapI.next]; omega, rfl, ⟨leF_c (leC_cl (cl_slBN L)), leF_int rfl, leF_cl (cl_slB eSm S), leF_int rfl, leF_c (leC_os rfl rfl), leF_int rfl, leF_int rfl, leF_int rfl, leF_ptr rfl, leF_int rfl, leF_int w4, trivial⟩, ⟨⟨rfl, leN_entP (by omega) (lt8 rfl rfl rfl rfl rfl rfl rfl rfl)⟩, ⟨rfl, leN_entN⟩, ⟨rfl, leN_entN⟩, ⟨rfl, leN_entN⟩, ⟨rfl, leN_entN⟩, ⟨rfl, leN_entN⟩, ⟨rfl, leN_entN⟩, ⟨rfl, leN_entN⟩, ⟨rfl, leN_entN⟩, ⟨rfl, leN_varA fun j hj => (Elem.flat _ _ _).le⟩, trivial⟩⟩
     . conv => whnf
       exact ⟨s0.next hkn s0.M (by rw [<- eh, cmp_no1 (by assumption)]; exact gset_self (by rw [hl]; exact hkn)), [], by dsimp only [MapI.next]; omega, rfl, ⟨leF_c (leC_cl (cl_slBN L)), leF_int rfl, leF_cl (cl_slB eSm S), leF_int rfl, leF_c (leC_os rfl rfl), leF_int rfl, leF_int rfl, leF_int rfl, leF_ptr rfl, leF_int rfl, leF_int w4, trivial⟩, ⟨⟨rfl, leN_entP (by omega) (lt8 rfl rfl rfl rfl rfl rfl rfl rfl)⟩, ⟨rfl, leN_entN⟩, ⟨rfl, leN_entN⟩, ⟨rfl, leN_entN⟩, ⟨rfl, leN_entN⟩, ⟨rfl, leN_entN⟩, ⟨rfl, leN_entN⟩, ⟨rfl, leN_entN⟩, ⟨rfl, leN_entN⟩, ⟨rfl, leN_varA fun j hj => (Elem.flat _ _ _).le⟩, trivial⟩⟩
   . have l1 := s0.last hkn
     have hkk := s0.hi
     have hl := s0.n
     have w6 : IntKind.i64.wrap ((0 : Int) + 1) = ((0 + 1 : Nat) : Int) := rfl
     repeat' (first | (apply And.intro <;> intro hc <;> (first | exact Bool.noConfusion hc | (exfalso; first | exact absurd rfl hc | omega) | (simp only [zb0, ne_eq, not_true_eq_false] at hc <;> first | exact absurd rfl hc | (exfalso; first | exact absurd rfl hc | omega) | skip) | skip)) | (refine And.intro zp1 ?_) | (apply And.intro) | (intro s hs; skip) | (refine Exists.intro _ (And.intro ⟨rfl, rfl, rfl⟩ ?_)))
     conv => whnf
     refine ⟨s', [], by show L.length - s'.i < _; rw [f4]; omega, rfl, ⟨leF_c (leC_cl (cl_slBN L)), leF_int rfl, leF_cl (cl_slB eSm S), leF_int rfl, leF_c (leC_os rfl (by rw [f1, List.length_set])), leF_int rfl, leF_int (by rw [f4]; rfl), trivial⟩, ⟨⟨rfl, ⟨rfl, by show _ = s'.M.length; rw [f1, List.length_set]; rfl, rfl, rfl, fun p hp j hj => ?_⟩⟩, ⟨rfl, leN_eqN (by rw [f1, set_at hiM]; exact l1.trans (by rw [<- eW]; rfl))⟩, ⟨rfl, leN_eqN (by rw [f1]; exact congrArg Sed.held (set_ne (by decide)).symm)⟩, ⟨rfl, leN_eqN (by rw [f1]; exact congrArg Sed.held (set_ne (by decide)).symm)⟩, ⟨rfl, leN_eqN (by rw [f1]; exact congrArg Sed.held (set_ne (by decide)).symm)⟩, ⟨rfl, leN_eqN (by rw [f1]; exact congrArg Sed.held (set_ne (by decide)).symm)⟩, ⟨rfl, leN_eqN (by rw [f1]; exact congrArg Sed.held (set_ne (by decide)).symm)⟩, ⟨rfl, leN_eqN (by rw [f1]; exact congrArg Sed.held (set_ne (by decide)).symm)⟩, ⟨rfl, leN_eqN (by rw [f1]; exact congrArg Sed.held (set_ne (by decide)).symm)⟩, trivial⟩⟩
     have hp : p < M.length := hp
     have hj : j < 3 := hj
     show LeC _ (rowP 2 M p j) (rowP 2 s'.M p j)
     rw [f1]
     rcases (show p = 0 \/ p = 1 \/ p = 2 \/ p = 3 \/ p = 4 \/ p = 5 \/ p = 6 \/ p = 7 by omega) with rfl | rfl | rfl | rfl | rfl | rfl | rfl | rfl
     all_goals first
      | exact rowP_set_ne hj (by decide) rfl rfl
      | skip
     refine rowP_set_at hiM ?_
     rcases j with _ | _ | _ | j
     . exact leC_int rfl
     . exact leC_int rfl
     . exact leC_os rfl (by show _ = (List.map _ _).length; rw [List.length_map])
     . omega
theorem cp_1 (L : List Sed) (S : List Smy) (now draw : Int) (hv : validL L = true) (hS : validSms S = true) (hd : drawOk draw) (ht : 0 <= now /\ now <= 1099511627776) (s : MapI (cmpS S now draw) L) (hi : s.i = 1) (hil : s.i < L.length) (K : Kt) :
 exec T (mkQ LMq) 1 Try.f29.ntmps 0 (loopIn (dropC 4 (Try.f29.body.getD Code.ret))) (SC L S now draw s).fr (SC L S now draw s).H (SC L S now draw s).nx (seqK (fun fr H _ => Goes (SC L S now draw) (fun s => L.length - s.i) 0 (L.length - s.i) fr H) K) := by
 have h8 := vl_len hv
 obtain ⟨hS8, hSm⟩ := vys hS
 have hX : SdOk (L.getD s.i default) := (vl_mem hv _ (getD_in hil)).2
 obtain ⟨s', es'⟩ : ∃ s', s.next hil _ rfl = s' := ⟨_, rfl⟩
 have f1 : s'.M = s.M.set s.i (cmpS S now draw (L.getD s.i default)) := by rw [<- es']; rfl
 have f4 : s'.i = s.i + 1 := by rw [<- es']; rfl
 clear es'
 obtain ⟨i, M, hn, hi0, h1, h2⟩ := s
 dsimp only at hi hil hX f1 f4
 subst hi
 have hiM : 1 < M.length := by omega
 have e0 := h2 1 (Nat.le_refl _)
 rw [<- e0] at hX f1
 have hk := hX.n
 have hmn := hX.mn
 unfold SC
 dsimp only
 clear h1 h2 e0
 repeat' (first | (apply And.intro <;> intro hc <;> (first | exact Bool.noConfusion hc | (exfalso; first | exact absurd rfl hc | omega) | (simp only [zb0, ne_eq, not_true_eq_false] at hc <;> first | exact absurd rfl hc | (exfalso; first | exact absurd rfl hc | omega) | skip) | skip)) | (refine And.intro zp1 ?_) | (apply And.intro) | (intro s hs; skip) | (refine Exists.intro _ (And.intro ⟨rfl, rfl, rfl⟩ ?_)))
 conv => whnf
 obtain ⟨W, eW⟩ : ∃ W, pickF (M.getD 1 default).id S ⟨0, 0, 0⟩ = W := ⟨_, rfl⟩
 refine loop_intro (mono_of LMq_ok) (fun s : {p : Nat × Smy // p.1 <= S.length /\ pickF (M.getD 1 default).id (S.drop p.1) p.2 = W} => (⟨[(0, one (slBN neS L)), (1, one (.int .i64 now)), (2, one (slB eSm S)), (3, one (.int .u32 draw)), (11, one (.os 1 0 M.length)), (35, one (.int .i64 (L.length : Int))), (36, one (.int .i64 ((1 : Nat) : Int))), (12, one (.int .i64 ((1 : Nat) : Int))), (13, one (.ptr 10 0 0 false)), (39, one (slB eSm S)), (40, one (.int .i64 (S.length : Int))), (41, one (.int .i64 (s.1.1 : Int)))], [(1, some (entP 2 M.length M)), (2, some (entH (M.getD 0 default).held)), (3, some (entH (M.getD 1 default).held)), (4, some (entH (M.getD 2 default).held)), (5, some (entH (M.getD 3 default).held)), (6, some (entH (M.getD 4 default).held)), (7, some (entH (M.getD 5 default).held)), (8, some (entH (M.getD 6 default).held)), (9, some (entH (M.getD 7 default).held)), (10, some ⟨60, 1, 3, true, fun _ => eSm.cell s.1.2⟩)], 11⟩ : Hd)) (fun s => S.length - s.1.1) (fun _ => rfl) ?_ ⟨(0, ⟨0, 0, 0⟩), Nat.zero_le _, eW⟩ [(10, some 13)] ⟨rfl, ⟨leF_c (leC_cl (cl_slBN L)), leF_int rfl, leF_cl (cl_slB eSm S), leF_int rfl, leF_c (leC_os rfl rfl), leF_int rfl, leF_int rfl, leF_int rfl, leF_ptr rfl, leF_cl (cl_slB eSm S), leF_int rfl, leF_int rfl, trivial⟩, ⟨⟨rfl, leN_entP (by omega) (lt8 rfl rfl rfl rfl rfl rfl rfl rfl)⟩, ⟨rfl, leN_entN⟩, ⟨rfl, leN_entN⟩, ⟨rfl, leN_entN⟩, ⟨rfl, leN_entN⟩, ⟨rfl, leN_entN⟩, ⟨rfl, leN_entN⟩, ⟨rfl, leN_entN⟩, ⟨rfl, leN_entN⟩, ⟨rfl, leN_varA (lt3c ⟨leC_int rfl, leC_int rfl, leC_int rfl⟩)⟩, trivial⟩⟩
 rintro ⟨⟨p, a⟩, hp, hW⟩
 dsimp only at hp hW ⊢
 unfold slB
 by_cases hpl : p < S.length
 . have w4 : IntKind.i64.wrap ((p : Int) + 1) = ((p + 1 : Nat) : Int) := (IntWalk.i64_in _ (by omega)).trans (by omega)
   have hst : pickF (M.getD 1 default).id (S.drop (p + 1)) (if (S.getD p default).id = (M.getD 1 default).id then S.getD p default else a) = W := by rw [<- hW, drop_at hpl]; rfl
   have n1 : (S.getD p default).id = (M.getD 1 default).id -> pickF (M.getD 1 default).id (S.drop (p + 1)) (S.getD p default) = W := fun h => by rw [if_pos h] at hst; exact hst
   have n2 : ¬ (S.getD p default).id = (M.getD 1 default).id -> pickF (M.getD 1 default).id (S.drop (p + 1)) a = W := fun h => by rw [if_neg h] at hst; exact hst
   clear hst
   repeat' (first | (simp only [w4]) | (apply And.intro <;> intro hc <;> (first | exact Bool.noConfusion hc | (exfalso; first | exact absurd rfl hc | omega) | (simp only [zb0, ne_eq, not_true_eq_false] at hc <;> first | exact absurd rfl hc | (exfalso; first | exact absurd rfl hc | omega) | skip) | skip)) | (refine And.intro zp1 ?_) | (apply And.intro) | (intro s hs; skip) | (refine Exists.intro _ (And.intro ⟨rfl, rfl, rfl⟩ ?_)))
   . conv => whnf
     exact ⟨⟨(p + 1, _), hpl, n1 hc⟩, [], by dsimp only; omega, rfl, ⟨leF_c (leC_cl (cl_slBN L)), leF_int rfl, leF_cl (cl_slB eSm S), leF_int rfl, leF_c (leC_os rfl rfl), leF_int rfl, leF_int rfl, leF_int rfl, leF_ptr rfl, leF_cl (cl_slB eSm S), leF_int rfl, leF_int w4, trivial⟩, ⟨⟨rfl, leN_entP (by omega) (lt8 rfl rfl rfl rfl rfl rfl rfl rfl)⟩, ⟨rfl, leN_entN⟩, ⟨rfl, leN_entN⟩, ⟨rfl, leN_entN⟩, ⟨rfl, leN_entN⟩, ⟨rfl, leN_entN⟩, ⟨rfl, leN_entN⟩, ⟨rfl, leN_entN⟩, ⟨rfl, leN_entN⟩, ⟨rfl, leN_varA (lt3c ⟨leC_int rfl, leC_int rfl, leC_int rfl⟩)⟩, trivial⟩⟩
   . conv => whnf
     exact ⟨⟨(p + 1, a), hpl, n2 hc⟩, [], by dsimp only; omega, rfl, ⟨leF_c (leC_cl (cl_slBN L)), leF_int rfl, leF_cl (cl_slB eSm S), leF_int rfl, leF_c (leC_os rfl rfl), leF_int rfl, leF_int rfl, leF_int rfl, leF_ptr rfl, leF_cl (cl_slB eSm S), leF_int rfl, leF_int w4, trivial⟩, ⟨⟨rfl, leN_entP (by omega) (lt8 rfl rfl rfl rfl rfl rfl rfl rfl)⟩, ⟨rfl, leN_entN⟩, ⟨rfl, leN_entN⟩, ⟨rfl, leN_entN⟩, ⟨rfl, leN_entN⟩, ⟨rfl, leN_entN⟩, ⟨rfl, leN_entN⟩, ⟨rfl, leN_entN⟩, ⟨rfl, leN_entN⟩, ⟨rfl, leN_varA fun j hj => (Elem.flat _ _ _).le⟩, trivial⟩⟩
 . obtain rfl : a = W := by
    rw [List.drop_of_length_le (by omega)] at hW; exact hW
   clear hW
   have hWm : 0 <= a.mn /\ a.mn <= 1073741824 := by rw [<- eW]; exact pick_ok (fun x hx => (hSm x hx).2) ⟨Int.le_refl _, by decide⟩
   repeat' (first | (apply And.intro <;> intro hc <;> (first | exact Bool.noConfusion hc | (exfalso; first | exact absurd rfl hc | omega) | (simp only [zb0, ne_eq, not_true_eq_false] at hc <;> first | exact absurd rfl hc | (exfalso; first | exact absurd rfl hc | omega) | skip) | skip)) | (refine And.intro zp1 ?_) | (apply And.intro) | (intro s hs; skip) | (refine Exists.intro _ (And.intro ⟨rfl, rfl, rfl⟩ ?_)))
   conv => whnf
   refine loop_intro (mono_of LMq_ok) (fun s : MapI (cmpH a now draw) (M.getD 1 default).held => (⟨[(0, one (slBN neS L)), (1, one (.int .i64 now)), (2, one (slB eSm S)), (3, one (.int .u32 draw)), (11, one (.os 1 0 M.length)), (35, one (.int .i64 (L.length : Int))), (36, one (.int .i64 ((1 : Nat) : Int))), (12, one (.int .i64 ((1 : Nat) : Int))), (13, one (.ptr 10 0 0 false)), (60, one (.int .i64 ((M.getD 1 default).held.length : Int))), (61, one (.int .i64 (s.i : Int)))], [(1, some (entP 2 M.length M)), (2, some (entH (M.getD 0 default).held)), (3, some (entH s.M)), (4, some (entH (M.getD 2 default).held)), (5, some (entH (M.getD 3 default).held)), (6, some (entH (M.getD 4 default).held)), (7, some (entH (M.getD 5 default).held)), (8, some (entH (M.getD 6 default).held)), (9, some (entH (M.getD 7 default).held)), (10, some ⟨60, 1, 3, true, fun _ => eSm.cell a⟩)], 11⟩ : Hd)) (fun s => (M.getD 1 default).held.length - s.i) (fun _ => rfl) ?_ (MapI.start _ _) [] ⟨rfl, ⟨leF_c (leC_cl (cl_slBN L)), leF_int rfl, leF_cl (cl_slB eSm S), leF_int rfl, leF_c (leC_os rfl rfl), leF_int rfl, leF_int rfl, leF_int rfl, leF_ptr rfl, leF_int rfl, leF_int rfl, trivial⟩, ⟨⟨rfl, leN_entP (by omega) (lt8 rfl rfl rfl rfl rfl rfl rfl rfl)⟩, ⟨rfl, leN_entN⟩, ⟨rfl, leN_entN⟩, ⟨rfl, leN_entN⟩, ⟨rfl, leN_entN⟩, ⟨rfl, leN_entN⟩, ⟨rfl, leN_entN⟩, ⟨rfl, leN_entN⟩, ⟨rfl, leN_entN⟩, ⟨rfl, leN_varA fun j hj => (Elem.flat _ _ _).le⟩, trivial⟩⟩
   intro s0
   by_cases hkn : s0.i < (M.getD 1 default).held.length
   . have w4 : IntKind.i64.wrap ((s0.i : Int) + 1) = ((s0.i + 1 : Nat) : Int) := (IntWalk.i64_in _ (by omega)).trans (by omega)
     have z0 : 0 + (s0.i : Int).toNat = s0.i := Nat.zero_add s0.i
     have eh := s0.h2 s0.i (Nat.le_refl _)
     have hl := s0.n
     have bk : Nat.beq s0.i s0.i = true := Nat.beq_refl _
     have hx := hels_ok hX (getD_in hkn)
     have hx1 := (vh_mem hX.h _ (getD_in hkn)).1
     rw [<- eh] at hx hx1
     have hxb := hx.b
     obtain ⟨B, eB2⟩ : ∃ B, hasB a (s0.M.getD s0.i default).num = B := ⟨_, rfl⟩
     obtain ⟨T, eT⟩ : ∃ T, resetT (s0.M.getD s0.i default).tm now draw = T := ⟨_, rfl⟩
     repeat' (first | (simp only [z0, w4, bk, Bool.cond_true]) | (apply And.intro <;> intro hc <;> (first | exact Bool.noConfusion hc | (exfalso; first | exact absurd rfl hc | omega) | (simp only [zb0, ne_eq, not_true_eq_false] at hc <;> first | exact absurd rfl hc | (exfalso; first | exact absurd rfl hc | omega) | skip) | skip)) | (refine And.intro zp1 ?_) | (apply And.intro) | (intro s hs; (first | (have q : B = s := eB2.symm.trans hs.symm; clear hs; subst q) | (have q : T = s := eT.symm.trans hs.symm; clear hs; subst q))) | (refine Exists.intro _ (And.intro ⟨rfl, rfl, rfl⟩ ?_)))
     . exact hc
     . conv => whnf
       refine ⟨s0.next hkn (s0.M.set s0.i { s0.M.getD s0.i default with tm := T.1 }) (by rw [<- eh, cmp_yes (by assumption) (eB2.trans (by assumption)) eT]), [], by dsimp only [MapI.next]; omega, rfl, ⟨leF_c (leC_cl (cl_slBN L)), leF_int rfl, leF_cl (cl_slB eSm S), leF_int rfl, leF_c (leC_os rfl rfl), leF_int rfl, leF_int rfl, leF_int rfl, leF_ptr rfl, leF_int rfl, leF_int w4, trivial⟩, ⟨⟨rfl, leN_entP (by omega) (lt8 rfl rfl rfl rfl rfl rfl rfl rfl)⟩, ⟨rfl, leN_entN⟩, ⟨rfl, leN_oneH ?_⟩, ⟨rfl, leN_entN⟩, ⟨rfl, leN_entN⟩, ⟨rfl, leN_entN⟩, ⟨rfl, leN_entN⟩, ⟨rfl, leN_entN⟩, ⟨rfl, leN_entN⟩, ⟨rfl, leN_varA fun j hj => (Elem.flat _ _ _).le⟩, trivial⟩⟩
       exact hel_set (by rw [hl]; exact hkn) (lt11c ⟨leC_int rfl, (neH.sh _ 1 (by decide)).le, leC_int rfl, leC_int rfl, leC_int rfl, leC_int rfl, leC_int rfl, leC_int rfl, leC_int rfl, leC_bool rfl, leC_int rfl⟩)
     . conv => whnf
       exact ⟨s0.next hkn s0.M (by rw [<- eh, cmp_no2 (eB2.trans (by assumption))]; exact gset_self (by rw [hl]; exact hkn)), [], by dsimp only [MapI.next]; omega, rfl, ⟨leF_c (leC_cl (cl_slBN L)), leF_int rfl, leF_cl (cl_slB eSm S), leF_int rfl, leF_c (leC_os rfl rfl), leF_int rfl, leF_int rfl, leF_int rfl, leF_ptr rfl, leF_int rfl, leF_int w4, trivial⟩, ⟨⟨rfl, leN_entP (by omega) (lt8 rfl rfl rfl rfl rfl rfl rfl rfl)⟩, ⟨rfl, leN_entN⟩, ⟨rfl, leN_entN⟩, ⟨rfl, leN_entN⟩, ⟨rfl, leN_entN⟩, ⟨rfl, leN_entN⟩, ⟨rfl, leN_entN⟩, ⟨rfl, leN_entN⟩, ⟨rfl, leN_entN⟩, ⟨rfl, leN_varA fun j hj => (Elem.flat _ _ _).le⟩, trivial⟩⟩
     . conv => whnf
       exact ⟨s0.next hkn s0.M (by rw [<- eh, cmp_no1 (by assumption)]; exact gset_self (by rw [hl]; exact hkn)), [], by dsimp only [MapI.next]; omega, rfl, ⟨leF_c (leC_cl (cl_slBN L)), leF_int rfl, leF_cl (cl_slB eSm S), leF_int rfl, leF_c (leC_os rfl rfl), leF_int rfl, leF_int rfl, leF_int rfl, leF_ptr rfl, leF_int rfl, leF_int w4, trivial⟩, ⟨⟨rfl, leN_entP (by omega) (lt8 rfl rfl rfl rfl rfl rfl rfl rfl)⟩, ⟨rfl, leN_entN⟩, ⟨rfl, leN_entN⟩, ⟨rfl, leN_entN⟩, ⟨rfl, leN_entN⟩, ⟨rfl, leN_entN⟩, ⟨rfl, leN_entN⟩, ⟨rfl, leN_entN⟩, ⟨rfl, leN_entN⟩, ⟨rfl, leN_varA fun j hj => (Elem.flat _ _ _).le⟩, trivial⟩⟩
   . have l1 := s0.last hkn
     have hkk := s0.hi
     have hl := s0.n
     have w6 : IntKind.i64.wrap ((1 : Int) + 1) = ((1 + 1 : Nat) : Int) := rfl
     repeat' (first | (apply And.intro <;> intro hc <;> (first | exact Bool.noConfusion hc | (exfalso; first | exact absurd rfl hc | omega) | (simp only [zb0, ne_eq, not_true_eq_false] at hc <;> first | exact absurd rfl hc | (exfalso; first | exact absurd rfl hc | omega) | skip) | skip)) | (refine And.intro zp1 ?_) | (apply And.intro) | (intro s hs; skip) | (refine Exists.intro _ (And.intro ⟨rfl, rfl, rfl⟩ ?_)))
     conv => whnf
     refine ⟨s', [], by show L.length - s'.i < _; rw [f4]; omega, rfl, ⟨leF_c (leC_cl (cl_slBN L)), leF_int rfl, leF_cl (cl_slB eSm S), leF_int rfl, leF_c (leC_os rfl (by rw [f1, List.length_set])), leF_int rfl, leF_int (by rw [f4]; rfl), trivial⟩, ⟨⟨rfl, ⟨rfl, by show _ = s'.M.length; rw [f1, List.length_set]; rfl, rfl, rfl, fun p hp j hj => ?_⟩⟩, ⟨rfl, leN_eqN (by rw [f1]; exact congrArg Sed.held (set_ne (by decide)).symm)⟩, ⟨rfl, leN_eqN (by rw [f1, set_at hiM]; exact l1.trans (by rw [<- eW]; rfl))⟩, ⟨rfl, leN_eqN (by rw [f1]; exact congrArg Sed.held (set_ne (by decide)).symm)⟩, ⟨rfl, leN_eqN (by rw [f1]; exact congrArg Sed.held (set_ne (by decide)).symm)⟩, ⟨rfl, leN_eqN (by rw [f1]; exact congrArg Sed.held (set_ne (by decide)).symm)⟩, ⟨rfl, leN_eqN (by rw [f1]; exact congrArg Sed.held (set_ne (by decide)).symm)⟩, ⟨rfl, leN_eqN (by rw [f1]; exact congrArg Sed.held (set_ne (by decide)).symm)⟩, ⟨rfl, leN_eqN (by rw [f1]; exact congrArg Sed.held (set_ne (by decide)).symm)⟩, trivial⟩⟩
     have hp : p < M.length := hp
     have hj : j < 3 := hj
     show LeC _ (rowP 2 M p j) (rowP 2 s'.M p j)
     rw [f1]
     rcases (show p = 0 \/ p = 1 \/ p = 2 \/ p = 3 \/ p = 4 \/ p = 5 \/ p = 6 \/ p = 7 by omega) with rfl | rfl | rfl | rfl | rfl | rfl | rfl | rfl
     all_goals first
      | exact rowP_set_ne hj (by decide) rfl rfl
      | skip
     refine rowP_set_at hiM ?_
     rcases j with _ | _ | _ | j
     . exact leC_int rfl
     . exact leC_int rfl
     . exact leC_os rfl (by show _ = (List.map _ _).length; rw [List.length_map])
     . omega
theorem cp_2 (L : List Sed) (S : List Smy) (now draw : Int) (hv : validL L = true) (hS : validSms S = true) (hd : drawOk draw) (ht : 0 <= now /\ now <= 1099511627776) (s : MapI (cmpS S now draw) L) (hi : s.i = 2) (hil : s.i < L.length) (K : Kt) :
 exec T (mkQ LMq) 1 Try.f29.ntmps 0 (loopIn (dropC 4 (Try.f29.body.getD Code.ret))) (SC L S now draw s).fr (SC L S now draw s).H (SC L S now draw s).nx (seqK (fun fr H _ => Goes (SC L S now draw) (fun s => L.length - s.i) 0 (L.length - s.i) fr H) K) := by
 have h8 := vl_len hv
 obtain ⟨hS8, hSm⟩ := vys hS
 have hX : SdOk (L.getD s.i default) := (vl_mem hv _ (getD_in hil)).2
 obtain ⟨s', es'⟩ : ∃ s', s.next hil _ rfl = s' := ⟨_, rfl⟩
 have f1 : s'.M = s.M.set s.i (cmpS S now draw (L.getD s.i default)) := by rw [<- es']; rfl
 have f4 : s'.i = s.i + 1 := by rw [<- es']; rfl
 clear es'
 obtain ⟨i, M, hn, hi0, h1, h2⟩ := s
 dsimp only at hi hil hX f1 f4
 subst hi
 have hiM : 2 < M.length := by omega
 have e0 := h2 2 (Nat.le_refl _)
 rw [<- e0] at hX f1
 have hk := hX.n
 have hmn := hX.mn
 unfold SC
 dsimp only
 clear h1 h2 e0
 repeat' (first | (apply And.intro <;> intro hc <;> (first | exact Bool.noConfusion hc | (exfalso; first | exact absurd rfl hc | omega) | (simp only [zb0, ne_eq, not_true_eq_false] at hc <;> first | exact absurd rfl hc | (exfalso; first | exact absurd rfl hc | omega) | skip) | skip)) | (refine And.intro zp1 ?_) | (apply And.intro) | (intro s hs; skip) | (refine Exists.intro _ (And.intro ⟨rfl, rfl, rfl⟩ ?_)))
 conv => whnf
 obtain ⟨W, eW⟩ : ∃ W, pickF (M.getD 2 default).id S ⟨0, 0, 0⟩ = W := ⟨_, rfl⟩
 refine loop_intro (mono_of LMq_ok) (fun s : {p : Nat × Smy // p.1 <= S.length /\ pickF (M.getD 2 default).id (S.drop p.1) p.2 = W} => (⟨[(0, one (slBN neS L)), (1, one (.int .i64 now)), (2, one (slB eSm S)), (3, one (.int .u32 draw)), (11, one (.os 1 0 M.length)), (35, one (.int .i64 (L.length : Int))), (36, one (.int .i64 ((2 : Nat) : Int))), (12, one (.int .i64 ((2 : Nat) : Int))), (13, one (.ptr 10 0 0 false)), (39, one (slB eSm S)), (40, one (.int .i64 (S.length : Int))), (41, one (.int .i64 (s.1.1 : Int)))], [(1, some (entP 2 M.length M)), (2, some (entH (M.getD 0 default).held)), (3, some (entH (M.getD 1 default).held)), (4, some (entH (M.getD 2 default).held)), (5, some (entH (M.getD 3 default).held)), (6, some (entH (M.getD 4 default).held)), (7, some (entH (M.getD 5 default).held)), (8, some (entH (M.getD 6 default).held)), (9, some (entH (M.getD 7 default).held)), (10, some ⟨60, 1, 3, true, fun _ => eSm.cell s.1.2⟩)], 11⟩ : Hd)) (fun s => S.length - s.1.1) (fun _ => rfl) ?_ ⟨(0, ⟨0, 0, 0⟩), Nat.zero_le _, eW⟩ [(10, some 13)] ⟨rfl, ⟨leF_c (leC_cl (cl_slBN L)), leF_int rfl, leF_cl (cl_slB eSm S), leF_int rfl, leF_c (leC_os rfl rfl), leF_int rfl, leF_int rfl, leF_int rfl, leF_ptr rfl, leF_cl (cl_slB eSm S), leF_int rfl, leF_int rfl, trivial⟩, ⟨⟨rfl, leN_entP (by omega) (lt8 rfl rfl rfl rfl rfl rfl rfl rfl)⟩, ⟨rfl, leN_entN⟩, ⟨rfl, leN_entN⟩, ⟨rfl, leN_entN⟩, ⟨rfl, leN_entN⟩, ⟨rfl, leN_entN⟩, ⟨rfl, leN_entN⟩, ⟨rfl, leN_entN⟩, ⟨rfl, leN_entN⟩, ⟨rfl, leN_varA (lt3c ⟨leC_int rfl, leC_int rfl, leC_int rfl⟩)⟩, trivial⟩⟩
 rintro ⟨⟨p, a⟩, hp, hW⟩
 dsimp only at hp hW ⊢
 unfold slB
 by_cases hpl : p < S.length
 . have w4 : IntKind.i64.wrap ((p : Int) + 1) = ((p + 1 : Nat) : Int) := (IntWalk.i64_in _ (by omega)).trans (by omega)
   have hst : pickF (M.getD 2 default).id (S.drop (p + 1)) (if (S.getD p default).id = (M.getD 2 default).id then S.getD p default else a) = W := by rw [<- hW, drop_at hpl]; rfl
   have n1 : (S.getD p default).id = (M.getD 2 default).id -> pickF (M.getD 2 default).id (S.drop (p + 1)) (S.getD p default) = W := fun h => by rw [if_pos h] at hst; exact hst
   have n2 : ¬ (S.getD p default).id = (M.getD 2 default).id -> pickF (M.getD 2 default).id (S.drop (p + 1)) a = W := fun h => by rw [if_neg h] at hst; exact hst
   clear hst
   repeat' (first | (simp only [w4]) | (apply And.intro <;> intro hc <;> (first | exact Bool.noConfusion hc | (exfalso; first | exact absurd rfl hc | omega) | (simp only [zb0, ne_eq, not_true_eq_false] at hc <;> first | exact absurd rfl hc | (exfalso; first | exact absurd rfl hc | omega) | skip) | skip)) | (refine And.intro zp1 ?_) | (apply And.intro) | (intro s hs; skip) | (refine Exists.intro _ (And.intro ⟨rfl, rfl, rfl⟩ ?_)))
   . conv => whnf
     exact ⟨⟨(p + 1, _), hpl, n1 hc⟩, [], by dsimp only; omega, rfl, ⟨leF_c (leC_cl (cl_slBN L)), leF_int rfl, leF_cl (cl_slB eSm S), leF_int rfl, leF_c (leC_os rfl rfl), leF_int rfl, leF_int rfl, leF_int rfl, leF_ptr rfl, leF_cl (cl_slB eSm S), leF_int rfl, leF_int w4, trivial⟩, ⟨⟨rfl, leN_entP (by omega) (lt8 rfl rfl rfl rfl rfl rfl rfl rfl)⟩, ⟨rfl, leN_entN⟩, ⟨rfl, leN_entN⟩, ⟨rfl, leN_entN⟩, ⟨rfl, leN_entN⟩, ⟨rfl, leN_entN⟩, ⟨rfl, leN_entN⟩, ⟨rfl, leN_entN⟩, ⟨rfl, leN_entN⟩, ⟨rfl, leN_varA (lt3c ⟨leC_int rfl, leC_int rfl, leC_int rfl⟩)⟩, trivial⟩⟩
   . conv => whnf
     exact ⟨⟨(p + 1, a), hpl, n2 hc⟩, [], by dsimp only; omega, rfl, ⟨leF_c (leC_cl (cl_slBN L)), leF_int rfl, leF_cl (cl_slB eSm S), leF_int rfl, leF_c (leC_os rfl rfl), leF_int rfl, leF_int rfl, leF_int rfl, leF_ptr rfl, leF_cl (cl_slB eSm S), leF_int rfl, leF_int w4, trivial⟩, ⟨⟨rfl, leN_entP (by omega) (lt8 rfl rfl rfl rfl rfl rfl rfl rfl)⟩, ⟨rfl, leN_entN⟩, ⟨rfl, leN_entN⟩, ⟨rfl, leN_entN⟩, ⟨rfl, leN_entN⟩, ⟨rfl, leN_entN⟩, ⟨rfl, leN_entN⟩, ⟨rfl, leN_entN⟩, ⟨rfl, leN_entN⟩, ⟨rfl, leN_varA fun j hj => (Elem.flat _ _ _).le⟩, trivial⟩⟩
 . obtain rfl : a = W := by
    rw [List.drop_of_length_le (by omega)] at hW; exact hW
   clear hW
   have hWm : 0 <= a.mn /\ a.mn <= 1073741824 := by rw [<- eW]; exact pick_ok (fun x hx => (hSm x hx).2) ⟨Int.le_refl _, by decide⟩
   repeat' (first | (apply And.intro <;> intro hc <;> (first | exact Bool.noConfusion hc | (exfalso; first | exact absurd rfl hc | omega) | (simp only [zb0, ne_eq, not_true_eq_false] at hc <;> first | exact absurd rfl hc | (exfalso; first | exact absurd rfl hc | omega) | skip) | skip)) | (refine And.intro zp1 ?_) | (apply And.intro) | (intro s hs; skip) | (refine Exists.intro _ (And.intro ⟨rfl, rfl, rfl⟩ ?_)))
   conv => whnf
   refine loop_intro (mono_of LMq_ok) (fun s : MapI (cmpH a now draw) (M.getD 2 default).held => (⟨[(0, one (slBN neS L)), (1, one (.int .i64 now)), (2, one (slB eSm S)), (3, one (.int .u32 draw)), (11, one (.os 1 0 M.length)), (35, one (.int .i64 (L.length : Int))), (36, one (.int .i64 ((2 : Nat) : Int))), (12, one (.int .i64 ((2 : Nat) : Int))), (13, one (.ptr 10 0 0 false)), (60, one (.int .i64 ((M.getD 2 default).held.length : Int))), (61, one (.int .i64 (s.i : Int)))], [(1, some (entP 2 M.length M)), (2, some (entH (M.getD 0 default).held)), (3, some (entH (M.getD 1 default).held)), (4, some (entH s.M)), (5, some (entH (M.getD 3 default).held)), (6, some (entH (M.getD 4 default).held)), (7, some (entH (M.getD 5 default).held)), (8, some (entH (M.getD 6 default).held)), (9, some (entH (M.getD 7 default).held)), (10, some ⟨60, 1, 3, true, fun _ => eSm.cell a⟩)], 11⟩ : Hd)) (fun s => (M.getD 2 default).held.length - s.i) (fun _ => rfl) ?_ (MapI.start _ _) [] ⟨rfl, ⟨leF_c (leC_cl (cl_slBN L)), leF_int rfl, leF_cl (cl_slB eSm S), leF_int rfl, leF_c (leC_os rfl rfl), leF_int rfl, leF_int rfl, leF_int rfl, leF_ptr rfl, leF_int rfl, leF_int rfl, trivial⟩, ⟨⟨rfl, leN_entP (by omega) (lt8 rfl rfl rfl rfl rfl rfl rfl rfl)⟩, ⟨rfl, leN_entN⟩, ⟨rfl, leN_entN⟩, ⟨rfl, leN_entN⟩, ⟨rfl, leN_entN⟩, ⟨rfl, leN_entN⟩, ⟨rfl, leN_entN⟩, ⟨rfl, leN_entN⟩, ⟨rfl, leN_entN⟩, ⟨rfl, leN_varA fun j hj => (Elem.flat _ _ _).le⟩, trivial⟩⟩
   intro s0
   by_cases hkn : s0.i < (M.getD 2 default).held.length
   . have w4 : IntKind.i64.wrap ((s0.i : Int) + 1) = ((s0.i + 1 : Nat) : Int) := (IntWalk.i64_in _ (by omega)).trans (by omega)
     have z0 : 0 + (s0.i : Int).toNat = s0.i := Nat.zero_add s0.i
     have eh := s0.h2 s0.i (Nat.le_refl _)
     have hl := s0.n
     have bk : Nat.beq s0.i s0.i = true := Nat.beq_refl _
     have hx := hels_ok hX (getD_in hkn)
     have hx1 := (vh_mem hX.h _ (getD_in hkn)).1
     rw [<- eh] at hx hx1
     have hxb := hx.b
     obtain ⟨B, eB2⟩ : ∃ B, hasB a (s0.M.getD s0.i default).num = B := ⟨_, rfl⟩
     obtain ⟨T, eT⟩ : ∃ T, resetT (s0.M.getD s0.i default).tm now draw = T := ⟨_, rfl⟩
     repeat' (first | (simp only [z0, w4, bk, Bool.cond_true]) | (apply And.intro <;> intro hc <;> (first | exact Bool.noConfusion hc | (exfalso; first | exact absurd rfl hc | omega) | (simp only [zb0, ne_eq, not_true_eq_false] at hc <;> first | exact absurd rfl hc | (exfalso; first | exact absurd rfl hc | omega) | skip) | skip)) | (refine And.intro zp1 ?_) | (apply And.intro) | (intro s hs; (first | (have q : B = s := eB2.symm.trans hs.symm; clear hs; subst q) | (have q : T = s := eT.symm.trans hs.symm; clear hs; subst q))) | (refine Exists.intro _ (And.intro ⟨rfl, rfl, rfl⟩ ?_)))
     . exact hc
     . conv => whnf
       refine ⟨s0.next hkn (s0.M.set s0.i { s0.M.getD s0.i default with tm := T.1 }) (by rw [<- eh, cmp_yes (by assumption) (eB2.trans (by assumption)) eT]), [], by dsimp only [MapI.next]; omega, rfl, ⟨leF_c (leC_cl (cl_slBN L)), leF_int rfl, leF_cl (cl_slB eSm S), leF_int rfl, leF_c (leC_os rfl rfl), leF_int rfl, leF_int rfl, leF_int rfl, leF_ptr rfl, leF_int rfl, leF_int w4, trivial⟩, ⟨⟨rfl, leN_entP (by omega) (lt8 rfl rfl rfl rfl rfl rfl rfl rfl)⟩, ⟨rfl, leN_entN⟩, ⟨rfl, leN_entN⟩, ⟨rfl, leN_oneH ?_⟩, ⟨rfl, leN_entN⟩, ⟨rfl, leN_entN⟩, ⟨rfl, leN_entN⟩, ⟨rfl, leN_entN⟩, ⟨rfl, leN_entN⟩, ⟨rfl, leN_varA fun j hj => (Elem.flat _ _ _).le⟩, trivial⟩⟩
       exact hel_set (by rw [hl]; exact hkn) (lt11c ⟨leC_int rfl, (neH.sh _ 1 (by decide)).le, leC_int rfl, leC_int rfl, leC_int rfl, leC_int rfl, leC_int rfl, leC_int rfl, leC_int rfl, leC_bool rfl, leC_int rfl⟩)
     . conv => whnf
       exact ⟨s0.next hkn s0.M (by rw [<- eh, cmp_no2 (eB2.trans (by assumption))]; exact gset_self (by rw [hl]; exact hkn)), [], by dsimp only [MapI.next]; omega, rfl, ⟨leF_c (leC_cl (cl_slBN L)), leF_int rfl, leF_cl (cl_slB eSm S), leF_int rfl, leF_c (leC_os rfl rfl), leF_int rfl, leF_int rfl, leF_int rfl, leF_ptr rfl, leF_int rfl, leF_int w4, trivial⟩, ⟨⟨rfl, leN_entP (by omega) (lt8 rfl rfl rfl rfl rfl rfl rfl rfl)⟩, ⟨rfl, leN_entN⟩, ⟨rfl, leN_entN⟩, ⟨rfl, leN_entN⟩, ⟨rfl, leN_entN⟩, ⟨rfl, leN_entN⟩, ⟨rfl, leN_entN⟩, ⟨rfl, leN_entN⟩, ⟨rfl, leN_entN⟩, ⟨rfl, leN_varA fun j hj => (Elem.flat _ _ _).le⟩, trivial⟩⟩
     . conv => whnf
       exact ⟨s0.next hkn s0.M (by rw [<- eh, cmp_no1 (by assumption)]; exact gset_self (by rw [hl]; exact hkn)), [], by dsimp only [MapI.next]; omega, rfl, ⟨leF_c (leC_cl (cl_slBN L)), leF_int rfl, leF_cl (cl_slB eSm S), leF_int rfl, leF_c (leC_os rfl rfl), leF_int rfl, leF_int rfl, leF_int rfl, leF_ptr rfl, leF_int rfl, leF_int w4, trivial⟩, ⟨⟨rfl, leN_entP (by omega) (lt8 rfl rfl rfl rfl rfl rfl rfl rfl)⟩, ⟨rfl, leN_entN⟩, ⟨rfl, leN_entN⟩, ⟨rfl, leN_entN⟩, ⟨rfl, leN_entN⟩, ⟨rfl, leN_entN⟩, ⟨rfl, leN_entN⟩, ⟨rfl, leN_entN⟩, ⟨rfl, leN_entN⟩, ⟨rfl, leN_varA fun j hj => (Elem.flat _ _ _).le⟩, trivial⟩⟩
   . have l1 := s0.last hkn
     have hkk := s0.hi
     have hl := s0.n
     have w6 : IntKind.i64.wrap ((2 : Int) + 1) = ((2 + 1 : Nat) : Int) := rfl
     repeat' (first | (apply And.intro <;> intro hc <;> (first | exact Bool.noConfusion hc | (exfalso; first | exact absurd rfl hc | omega) | (simp only [zb0, ne_eq, not_true_eq_false] at hc <;> first | exact absurd rfl hc | (exfalso; first | exact absurd rfl hc | omega) | skip) | skip)) | (refine And.intro zp1 ?_) | (apply And.intro) | (intro s hs; skip) | (refine Exists.intro _ (And.intro ⟨rfl, rfl, rfl⟩ ?_)))
     conv => whnf
     refine ⟨s', [], by show L.length - s'.i < _; rw [f4]; omega, rfl, ⟨leF_c (leC_cl (cl_slBN L)), leF_int rfl, leF_cl (cl_slB eSm S), leF_int rfl, leF_c (leC_os rfl (by rw [f1, List.length_set])), leF_int rfl, leF_int (by rw [f4]; rfl), trivial⟩, ⟨⟨rfl, ⟨rfl, by show _ = s'.M.length; rw [f1, List.length_set]; rfl, rfl, rfl, fun p hp j hj => ?_⟩⟩, ⟨rfl, leN_eqN (by rw [f1]; exact congrArg Sed.held (set_ne (by decide)).symm)⟩, ⟨rfl, leN_eqN (by rw [f1]; exact congrArg Sed.held (set_ne (by decide)).symm)⟩, ⟨rfl, leN_eqN (by rw [f1, set_at hiM]; exact l1.trans (by rw [<- eW]; rfl))⟩, ⟨rfl, leN_eqN (by rw [f1]; exact congrArg Sed.held (set_ne (by decide)).symm)⟩, ⟨rfl, leN_eqN (by rw [f1]; exact congrArg Sed.held (set_ne (by decide)).symm)⟩, ⟨rfl, leN_eqN (by rw [f1]; exact congrArg Sed.held (set_ne (by decide)).symm)⟩, ⟨rfl, leN_eqN (by rw [f1]; exact congrArg Sed.held (set_ne (by decide)).symm)⟩, ⟨rfl, leN_eqN (by rw [f1]; exact congrArg Sed.held (set_ne (by decide)).symm)⟩, trivial⟩⟩
     have hp : p < M.length := hp
     have hj : j < 3 := hj
     show LeC _ (rowP 2 M p j) (rowP 2 s'.M p j)
     rw [f1]
     rcases (show p = 0 \/ p = 1 \/ p = 2 \/ p = 3 \/ p = 4 \/ p = 5 \/ p = 6 \/ p = 7 by omega) with rfl | rfl | rfl | rfl | rfl | rfl | rfl | rfl
     all_goals first
      | exact rowP_set_ne hj (by decide) rfl rfl
      | skip
     refine rowP_set_at hiM ?_
     rcases j with _ | _ | _ | j
     . exact leC_int rfl
     . exact leC_int rfl
     . exact leC_os rfl (by show _ = (List.map _ _).length; rw [List.length_map])
     . omega
theorem cp_3 (L : List Sed) (S : List Smy) (now draw : Int) (hv : validL L = true) (hS : validSms S = true) (hd : drawOk draw) (ht : 0 <= now /\ now <= 1099511627776) (s : MapI (cmpS S now draw) L) (hi : s.i = 3) (hil : s.i < L.length) (K : Kt) :
 exec T (mkQ LMq) 1 Try.f29.ntmps 0 (loopIn (dropC 4 (Try.f29.body.getD Code.ret))) (SC L S now draw s).fr (SC L S now draw s).H (SC L S now draw s).nx (seqK (fun fr H _ => Goes (SC L S now draw) (fun s => L.length - s.i) 0 (L.length - s.i) fr H) K) := by
 have h8 := vl_len hv
 obtain ⟨hS8, hSm⟩ := vys hS
 have hX : SdOk (L.getD s.i default) := (vl_mem hv _ (getD_in hil)).2
 obtain ⟨s', es'⟩ : ∃ s', s.next hil _ rfl = s' := ⟨_, rfl⟩
 have f1 : s'.M = s.M.set s.i (cmpS S now draw (L.getD s.i default)) := by rw [<- es']; rfl
 have f4 : s'.i = s.i + 1 := by rw [<- es']; rfl
 clear es'
 obtain ⟨i, M, hn, hi0, h1, h2⟩ := s
 dsimp only at hi hil hX f1 f4
 subst hi
 have hiM : 3 < M.length := by omega
 have e0 := h2 3 (Nat.le_refl _)
 rw [<- e0] at hX f1
 have hk := hX.n
 have hmn := hX.mn
 unfold SC
 dsimp only
 clear h1 h2 e0
 repeat' (first | (apply And.intro <;> intro hc <;> (first | exact Bool.noConfusion hc | (exfalso; first | exact absurd rfl hc | omega) | (simp only [zb0, ne_eq, not_true_eq_false] at hc <;> first | exact absurd rfl hc | (exfalso; first | exact absurd rfl hc | omega) | skip) | skip)) | (refine And.intro zp1 ?_) | (apply And.intro) | (intro s hs; skip) | (refine Exists.intro _ (And.intro ⟨rfl, rfl, rfl⟩ ?_)))
 conv => whnf
 obtain ⟨W, eW⟩ : ∃ W, pickF (M.getD 3 default).id S ⟨0, 0, 0⟩ = W := ⟨_, rfl⟩
 refine loop_intro (mono_of LMq_ok) (fun s : {p : Nat × Smy // p.1 <= S.length /\ pickF (M.getD 3 default).id (S.drop p.1) p.2 = W} => (⟨[(0, one (slBN neS L)), (1, one (.int .i64 now)), (2, one (slB eSm S)), (3, one (.int .u32 draw)), (11, one (.os 1 0 M.length)), (35, one (.int .i64 (L.length : Int))), (36, one (.int .i64 ((3 : Nat) : Int))), (12, one (.int .i64 ((3 : Nat) : Int))), (13, one (.ptr 10 0 0 false)), (39, one (slB eSm S)), (40, one (.int .i64 (S.length : Int))), (41, one (.int .i64 (s.1.1 : Int)))], [(1, some (entP 2 M.length M)), (2, some (entH (M.getD 0 default).held)), (3, some (entH (M.getD 1 default).held)), (4, some (entH (M.getD 2 default).held)), (5, some (entH (M.getD 3 default).held)), (6, some (entH (M.getD 4 default).held)), (7, some (entH (M.getD 5 default).held)), (8, some (entH (M.getD 6 default).held)), (9, some (entH (M.getD 7 default).held)), (10, some ⟨60, 1, 3, true, fun _ => eSm.cell s.1.2⟩)], 11⟩ : Hd)) (fun s => S.length - s.1.1) (fun _ => rfl) ?_ ⟨(0, ⟨0, 0, 0⟩), Nat.zero_le _, eW⟩ [(10, some 13)] ⟨rfl, ⟨leF_c (leC_cl (cl_slBN L)), leF_int rfl, leF_cl (cl_slB eSm S), leF_int rfl, leF_c (leC_os rfl rfl), leF_int rfl, leF_int rfl, leF_int rfl, leF_ptr rfl, leF_cl (cl_slB eSm S), leF_int rfl, leF_int rfl, trivial⟩, ⟨⟨rfl, leN_entP (by omega) (lt8 rfl rfl rfl rfl rfl rfl rfl rfl)⟩, ⟨rfl, leN_entN⟩, ⟨rfl, leN_entN⟩, ⟨rfl, leN_entN⟩, ⟨rfl, leN_entN⟩, ⟨rfl, leN_entN⟩, ⟨rfl, leN_entN⟩, ⟨rfl, leN_entN⟩, ⟨rfl, leN_entN⟩, ⟨rfl, leN_varA (lt3c ⟨leC_int rfl, leC_int rfl, leC_int rfl⟩)⟩, trivial⟩⟩
 rintro ⟨⟨p, a⟩, hp, hW⟩
 dsimp only at hp hW ⊢
 unfold slB
 by_cases hpl : p < S.length
 . have w4 : IntKind.i64.wrap ((p : Int) + 1) = ((p + 1 : Nat) : Int) := (IntWalk.i64_in _ (by omega)).trans (by omega)
   have hst : pickF (M.getD 3 default).id (S.drop (p + 1)) (if (S.getD p default).id = (M.getD 3 default).id then S.getD p default else a) = W := by rw [<- hW, drop_at hpl]; rfl
   have n1 : (S.getD p default).id = (M.getD 3 default).id -> pickF (M.getD 3 default).id (S.drop (p + 1)) (S.getD p default) = W := fun h => by rw [if_pos h] at hst; exact hst
   have n2 : ¬ (S.getD p default).id = (M.getD 3 default).id -> pickF (M.getD 3 default).id (S.drop (p + 1)) a = W := fun h => by rw [if_neg h] at hst; exact hst
   clear hst
   repeat' (first | (simp only [w4]) | (apply And.intro <;> intro hc <;> (first | exact Bool.noConfusion hc | (exfalso; first | exact absurd rfl hc | omega) | (simp only [zb0, ne_eq, not_true_eq_false] at hc <;> first | exact absurd rfl hc | (exfalso; first | exact absurd rfl hc | omega) | skip) | skip)) | (refine And.intro zp1 ?_) | (apply And.intro) | (intro s hs; skip) | (refine Exists.intro _ (And.intro ⟨rfl, rfl, rfl⟩ ?_)))
   . conv => whnf
     exact ⟨⟨(p + 1, _), hpl, n1 hc⟩, [], by dsimp only; omega, rfl, ⟨leF_c (leC_cl (cl_slBN L)), leF_int rfl, leF_cl (cl_slB eSm S), leF_int rfl, leF_c (leC_os rfl rfl), leF_int rfl, leF_int rfl, leF_int rfl, leF_ptr rfl, leF_cl (cl_slB eSm S), leF_int rfl, leF_int w4, trivial⟩, ⟨⟨rfl, leN_entP (by omega) (lt8 rfl rfl rfl rfl rfl rfl rfl rfl)⟩, ⟨rfl, leN_entN⟩, ⟨rfl, leN_entN⟩, ⟨rfl, leN_entN⟩, ⟨rfl, leN_entN⟩, ⟨rfl, leN_entN⟩, ⟨rfl, leN_entN⟩, ⟨rfl, leN_entN⟩, ⟨rfl, leN_entN⟩, ⟨rfl, leN_varA (lt3c ⟨leC_int rfl, leC_int rfl, leC_int rfl⟩)⟩, trivial⟩⟩
   . conv => whnf
     exact ⟨⟨(p + 1, a), hpl, n2 hc⟩, [], by dsimp only; omega, rfl, ⟨leF_c (leC_cl (cl_slBN L)), leF_int rfl, leF_cl (cl_slB eSm S), leF_int rfl, leF_c (leC_os rfl rfl), leF_int rfl, leF_int rfl, leF_int rfl, leF_ptr rfl, leF_cl (cl_slB eSm S), leF_int rfl, leF_int w4, trivial⟩, ⟨⟨rfl, leN_entP (by omega) (lt8 rfl rfl rfl rfl rfl rfl rfl rfl)⟩, ⟨rfl, leN_entN⟩, ⟨rfl, leN_entN⟩, ⟨rfl, leN_entN⟩, ⟨rfl, leN_entN⟩, ⟨rfl, leN_entN⟩, ⟨rfl, leN_entN⟩, ⟨rfl, leN_entN⟩, ⟨rfl, leN_entN⟩, ⟨rfl, leN_varA fun j hj => (Elem.flat _ _ _).le⟩, trivial⟩⟩
 . obtain rfl : a = W := by
    rw [List.drop_of_length_le (by omega)] at hW; exact hW
   clear hW
   have hWm : 0 <= a.mn /\ a.mn <= 1073741824 := by rw [<- eW]; exact pick_ok (fun x hx => (hSm x hx).2) ⟨Int.le_refl _, by decide⟩
   repeat' (first | (apply And.intro <;> intro hc <;> (first | exact Bool.noConfusion hc | (exfalso; first | exact absurd rfl hc | omega) | (simp only [zb0, ne_eq, not_true_eq_false] at hc <;> first | exact absurd rfl hc | (exfalso; first | exact absurd rfl hc | omega) | skip) | skip)) | (refine And.intro zp1 ?_) | (apply And.intro) | (intro s hs; skip) | (refine Exists.intro _ (And.intro ⟨rfl, rfl, rfl⟩ ?_)))
   conv => whnf
   refine loop_intro (mono_of LMq_ok) (fun s : MapI (cmpH a now draw) (M.getD 3 default).held => (⟨[(0, one (slBN neS L)), (1, one (.int .i64 now)), (2, one (slB eSm S)), (3, one (.int .u32 draw)), (11, one (.os 1 0 M.length)), (35, one (.int .i64 (L.length : Int))), (36, one (.int .i64 ((3 : Nat) : Int))), (12, one (.int .i64 ((3 : Nat) : Int))), (13, one (.ptr 10 0 0 false)), (60, one (.int .i64 ((M.getD 3 default).held.length : Int))), (61, one (.int .i64 (s.i : Int)))], [(1, some (entP 2 M.length M)), (2, some (entH (M.getD 0 default).held)), (3, some (entH (M.getD 1 default).held)), (4, some (entH (M.getD 2 default).held)), (5, some (entH s.M)), (6, some (entH (M.getD 4 default).held)), (7, some (entH (M.getD 5 default).held)), (8, some (entH (M.getD 6 default).held)), (9, some (entH (M.getD 7 default).held)), (10, some ⟨60, 1, 3, true, fun _ => eSm.cell a⟩)], 11⟩ : Hd)) (fun s => (M.getD 3 default).held.length - s.i) (fun _ => rfl) ?_ (MapI.start _ _) [] ⟨rfl, ⟨leF_c (leC_cl (cl_slBN L)), leF_int rfl, leF_cl (cl_slB eSm S), leF_int rfl, leF_c (leC_os rfl rfl), leF_int rfl, leF_int rfl, leF_int rfl, leF_ptr rfl, leF_int rfl, leF_int rfl, trivial⟩, ⟨⟨rfl, leN_entP (by omega) (lt8 rfl rfl rfl rfl rfl rfl rfl rfl)⟩, ⟨rfl, leN_entN⟩, ⟨rfl, leN_entN⟩, ⟨rfl, leN_entN⟩, ⟨rfl, leN_entN⟩, ⟨rfl, leN_entN⟩, ⟨rfl, leN_entN⟩, ⟨rfl, leN_entN⟩, ⟨rfl, leN_entN⟩, ⟨rfl, leN_varA fun j hj => (Elem.flat _ _ _).le⟩, trivial⟩⟩
   intro s0
   by_cases hkn : s0.i < (M.getD 3 default).held.length
   . have w4 : IntKind.i64.wrap ((s0.i : Int) + 1) = ((s0.i + 1 : Nat) : Int) := (IntWalk.i64_in _ (by omega)).trans (by omega)
     have z0 : 0 + (s0.i : Int).toNat = s0.i := Nat.zero_add s0.i
     have eh := s0.h2 s0.i (Nat.le_refl _)
     have hl := s0.n
     have bk : Nat.beq s0.i s0.i = true := Nat.beq_refl _
     have hx := hels_ok hX (getD_in hkn)
     have hx1 := (vh_mem hX.h _ (getD_in hkn)).1
     rw [<- eh] at hx hx1
     have hxb := hx.b
     obtain ⟨B, eB2⟩ : ∃ B, hasB a (s0.M.getD s0.i default).num = B := ⟨_, rfl⟩
     obtain ⟨T, eT⟩ : ∃ T, resetT (s0.M.getD s0.i default).tm now draw = T := ⟨_, rfl⟩
     repeat' (first | (simp only [z0, w4, bk, Bool.cond_true]) | (apply And.intro <;> intro hc <;> (first | exact Bool.noConfusion hc | (exfalso; first | exact absurd rfl hc | omega) | (simp only [zb0, ne_eq, not_true_eq_false] at hc <;> first | exact absurd rfl hc | (exfalso; first | exact absurd rfl hc | omega) | skip) | skip)) | (refine And.intro zp1 ?_) | (apply And.intro) | (intro s hs; (first | (have q : B = s := eB2.symm.trans hs.symm; clear hs; subst q) | (have q : T = s := eT.symm.trans hs.symm; clear hs; subst q))) | (refine Exists.intro _ (And.intro ⟨rfl, rfl, rfl⟩ ?_)))
     . exact hc
     . conv => whnf
       refine ⟨s0.next hkn (s0.M.set s0.i { s0.M.getD s0.i default with tm := T.1 }) (by rw [<- eh, cmp_yes (by assumption) (eB2.trans (by assumption)) eT]), [], by dsimp only [MapI.next]; omega, rfl, ⟨leF_c (leC_cl (cl_slBN L)), leF_int rfl, leF_cl (cl_slB eSm S), leF_int rfl, leF_c (leC_os rfl rfl), leF_int rfl, leF_int rfl, leF_int rfl, leF_ptr rfl, leF_int rfl, leF_int w4, trivial⟩, ⟨⟨rfl, leN_entP (by omega) (lt8 rfl rfl rfl rfl rfl rfl rfl rfl)⟩, ⟨rfl, leN_entN⟩, ⟨rfl, leN_entN⟩, ⟨rfl, leN_entN⟩, ⟨rfl, leN_oneH ?_⟩, ⟨rfl, leN_entN⟩, ⟨rfl, leN_entN⟩, ⟨rfl, leN_entN⟩, ⟨rfl, leN_entN⟩, ⟨rfl, leN_varA fun j hj => (Elem.flat _ _ _).le⟩, trivial⟩⟩
       exact hel_set (by rw [hl]; exact hkn) (lt11c ⟨leC_int rfl, (neH.sh _ 1 (by decide)).le, leC_int rfl, leC_int rfl, leC_int rfl, leC_int rfl, leC_int rfl, leC_int rfl, leC_int rfl, leC_bool rfl, leC_int rfl⟩)
     . conv => whnf
       exact ⟨s0.next hkn s0.M (by rw [<- eh, cmp_no2 (eB2.trans (by assumption))]; exact gset_self (by rw [hl]; exact hkn)), [], by dsimp only [MapI.next]; omega, rfl, ⟨leF_c (leC_cl (cl_slBN L)), leF_int rfl, leF_cl (cl_slB eSm S), leF_int rfl, leF_c (leC_os rfl rfl), leF_int rfl, leF_int rfl, leF_int rfl, leF_ptr rfl, leF_int rfl, leF_int w4, trivial⟩, ⟨⟨rfl, leN_entP (by omega) (lt8 rfl rfl rfl rfl rfl rfl rfl rfl)⟩, ⟨rfl, leN_entN⟩, ⟨rfl, leN_entN⟩, ⟨rfl, leN_entN⟩, ⟨rfl, leN_entN⟩, ⟨rfl, leN_entN⟩, ⟨rfl, leN_entN⟩, ⟨rfl, leN_entN⟩, ⟨rfl, leN_entN⟩, ⟨rfl, leN_varA fun j hj => (Elem.flat _ _ _).le⟩, trivial⟩⟩
     . conv => whnf
       exact ⟨s0.next hkn s0.M (by rw [<- eh, cmp_no1 (by assumption)]; exact gset_self (by rw [hl]; exact hkn)), [], by dsimp only [MapI.next]; omega, rfl, ⟨leF_c (leC_cl (cl_slBN L)), leF_int rfl, leF_cl (cl_slB eSm S), leF_int rfl, leF_c (leC_os rfl rfl), leF_int rfl, leF_int rfl, leF_int rfl, leF_ptr rfl, leF_int rfl, leF_int w4, trivial⟩, ⟨⟨rfl, leN_entP (by omega) (lt8 rfl rfl rfl rfl rfl rfl rfl rfl)⟩, ⟨rfl, leN_entN⟩, ⟨rfl, leN_entN⟩, ⟨rfl, leN_entN⟩, ⟨rfl, leN_entN⟩, ⟨rfl, leN_entN⟩, ⟨rfl, leN_entN⟩, ⟨rfl, leN_entN⟩, ⟨rfl, leN_entN⟩, ⟨rfl, leN_varA fun j hj => (Elem.flat _ _ _).le⟩, trivial⟩⟩
   . have l1 := s0.last hkn
     have hkk := s0.hi
     have hl := s0.n
     have w6 : IntKind.i64.wrap ((3 : Int) + 1) = ((3 + 1 : Nat) : Int) := rfl
     repeat' (first | (apply And.intro <;> intro hc <;> (first | exact Bool.noConfusion hc | (exfalso; first | exact absurd rfl hc | omega) | (simp only [zb0, ne_eq, not_true_eq_false] at hc <;> first | exact absurd rfl hc | (exfalso; first | exact absurd rfl hc | omega) | skip) | skip)) | (refine And.intro zp1 ?_) | (apply And.intro) | (intro s hs; skip) | (refine Exists.intro _ (And.intro ⟨rfl, rfl, rfl⟩ ?_)))
     conv => whnf
     refine ⟨s', [], by show L.length - s'.i < _; rw [f4]; omega, rfl, ⟨leF_c (leC_cl (cl_slBN L)), leF_int rfl, leF_cl (cl_slB eSm S), leF_int rfl, leF_c (leC_os rfl (by rw [f1, List.length_set])), leF_int rfl, leF_int (by rw [f4]; rfl), trivial⟩, ⟨⟨rfl, ⟨rfl, by show _ = s'.M.length; rw [f1, List.length_set]; rfl, rfl, rfl, fun p hp j hj => ?_⟩⟩, ⟨rfl, leN_eqN (by rw [f1]; exact congrArg Sed.held (set_ne (by decide)).symm)⟩, ⟨rfl, leN_eqN (by rw [f1]; exact congrArg Sed.held (set_ne (by decide)).symm)⟩, ⟨rfl, leN_eqN (by rw [f1]; exact congrArg Sed.held (set_ne (by decide)).symm)⟩, ⟨rfl, leN_eqN (by rw [f1, set_at hiM]; exact l1.trans (by rw [<- eW]; rfl))⟩, ⟨rfl, leN_eqN (by rw [f1]; exact congrArg Sed.held (set_ne (by decide)).symm)⟩, ⟨rfl, leN_eqN (by rw [f1]; exact congrArg Sed.held (set_ne (by decide)).symm)⟩, ⟨rfl, leN_eqN (by rw [f1]; exact congrArg Sed.held (set_ne (by decide)).symm)⟩, ⟨rfl, leN_eqN (by rw [f1]; exact congrArg Sed.held (set_ne (by decide)).symm)⟩, trivial⟩⟩
     have hp : p < M.length := hp
     have hj : j < 3 := hj
     show LeC _ (rowP 2 M p j) (rowP 2 s'.M p j)
     rw [f1]
     rcases (show p = 0 \/ p = 1 \/ p = 2 \/ p = 3 \/ p = 4 \/ p = 5 \/ p = 6 \/ p = 7 by omega) with rfl | rfl | rfl | rfl | rfl | rfl | rfl | rfl
     all_goals first
      | exact rowP_set_ne hj (by decide) rfl rfl
      | skip
     refine rowP_set_at hiM ?_
     rcases j with _ | _ | _ | j
     . exact leC_int rfl
     . exact leC_int rfl
     . exact leC_os rfl (by show _ = (List.map _ _).length; rw [List.length_map])
     . omega
theorem cp_4 (L : List Sed) (S : List Smy) (now draw : Int) (hv : validL L = true) (hS : validSms S = true) (hd : drawOk draw) (ht : 0 <= now /\ now <= 1099511627776) (s : MapI (cmpS S now draw) L) (hi : s.i = 4) (hil : s.i < L.length) (K : Kt) :
 exec T (mkQ LMq) 1 Try.f29.ntmps 0 (loopIn (dropC 4 (Try.f29.body.getD Code.ret))) (SC L S now draw s).fr (SC L S now draw s).H (SC L S now draw s).nx (seqK (fun fr H _ => Goes (SC L S now draw) (fun s => L.length - s.i) 0 (L.length - s.i) fr H) K) := by
 have h8 := vl_len hv
 obtain ⟨hS8, hSm⟩ := vys hS
 have hX : SdOk (L.getD s.i default) := (vl_mem hv _ (getD_in hil)).2
 obtain ⟨s', es'⟩ : ∃ s', s.next hil _ rfl = s' := ⟨_, rfl⟩
 have f1 : s'.M = s.M.set s.i (cmpS S now draw (L.getD s.i default)) := by rw [<- es']; rfl
 have f4 : s'.i = s.i + 1 := by rw [<- es']; rfl
 clear es'
 obtain ⟨i, M, hn, hi0, h1, h2⟩ := s
 dsimp only at hi hil hX f1 f4
 subst hi
 have hiM : 4 < M.length := by omega
 have e0 := h2 4 (Nat.le_refl _)
 rw [<- e0] at hX f1
 have hk := hX.n
 have hmn := hX.mn
 unfold SC
 dsimp only
 clear h1 h2 e0
 repeat' (first | (apply And.intro <;> intro hc <;> (first | exact Bool.noConfusion hc | (exfalso; first | exact absurd rfl hc | omega) | (simp only [zb0, ne_eq, not_true_eq_false] at hc <;> first | exact absurd rfl hc | (exfalso; first | exact absurd rfl hc | omega) | skip) | skip)) | (refine And.intro zp1 ?_) | (apply And.intro) | (intro s hs; skip) | (refine Exists.intro _ (And.intro ⟨rfl, rfl, rfl⟩ ?_)))
 conv => whnf
 obtain ⟨W, eW⟩ : ∃ W, pickF (M.getD 4 default).id S ⟨0, 0, 0⟩ = W := ⟨_, rfl⟩
 refine loop_intro (mono_of LMq_ok) (fun s : {p : Nat × Smy // p.1 <= S.length /\ pickF (M.getD 4 default).id (S.drop p.1) p.2 = W} => (⟨[(0, one (slBN neS L)), (1, one (.int .i64 now)), (2, one (slB eSm S)), (3, one (.int .u32 draw)), (11, one (.os 1 0 M.length)), (35, one (.int .i64 (L.length : Int))), (36, one (.int .i64 ((4 : Nat) : Int))), (12, one (.int .i64 ((4 : Nat) : Int))), (13, one (.ptr 10 0 0 false)), (39, one (slB eSm S)), (40, one (.int .i64 (S.length : Int))), (41, one (.int .i64 (s.1.1 : Int)))], [(1, some (entP 2 M.length M)), (2, some (entH (M.getD 0 default).held)), (3, some (entH (M.getD 1 default).held)), (4, some (entH (M.getD 2 default).held)), (5, some (entH (M.getD 3 default).held)), (6, some (entH (M.getD 4 default).held)), (7, some (entH (M.getD 5 default).held)), (8, some (entH (M.getD 6 default).held)), (9, some (entH (M.getD 7 default).held)), (10, some ⟨60, 1, 3, true, fun _ => eSm.cell s.1.2⟩)], 11⟩ : Hd)) (fun s => S.length - s.1.1) (fun _ => rfl) ?_ ⟨(0, ⟨0, 0, 0⟩), Nat.zero_le _, eW⟩ [(10, some 13)] ⟨rfl, ⟨leF_c (leC_cl (cl_slBN L)), leF_int rfl, leF_cl (cl_slB eSm S), leF_int rfl, leF_c (leC_os rfl rfl), leF_int rfl, leF_int rfl, leF_int rfl, leF_ptr rfl, leF_cl (cl_slB eSm S), leF_int rfl, leF_int rfl, trivial⟩, ⟨⟨rfl, leN_entP (by omega) (lt8 rfl rfl rfl rfl rfl rfl rfl rfl)⟩, ⟨rfl, leN_entN⟩, ⟨rfl, leN_entN⟩, ⟨rfl, leN_entN⟩, ⟨rfl, leN_entN⟩, ⟨rfl, leN_entN⟩, ⟨rfl, leN_entN⟩, ⟨rfl, leN_entN⟩, ⟨rfl, leN_entN⟩, ⟨rfl, leN_varA (lt3c ⟨leC_int rfl, leC_int rfl, leC_int rfl⟩)⟩, trivial⟩⟩
 rintro ⟨⟨p, a⟩, hp, hW⟩
 dsimp only at hp hW ⊢
 unfold slB
 by_cases hpl : p < S.length
 . have w4 : IntKind.i64.wrap ((p : Int) + 1) = ((p + 1 : Nat) : Int) := (IntWalk.i64_in _ (by omega)).trans (by omega)
   have hst : pickF (M.getD 4 default).id (S.drop (p + 1)) (if (S.getD p default).id = (M.getD 4 default).id then S.getD p default else a) = W := by rw [<- hW, drop_at hpl]; rfl
   have n1 : (S.getD p default).id = (M.getD 4 default).id -> pickF (M.getD 4 default).id (S.drop (p + 1)) (S.getD p default) = W := fun h => by rw [if_pos h] at hst; exact hst
   have n2 : ¬ (S.getD p default).id = (M.getD 4 default).id -> pickF (M.getD 4 default).id (S.drop (p + 1)) a = W := fun h => by rw [if_neg h] at hst; exact hst
   clear hst
   repeat' (first | (simp only [w4]) | (apply And.intro <;> intro hc <;> (first | exact Bool.noConfusion hc | (exfalso; first | exact absurd rfl hc | omega) | (simp only [zb0, ne_eq, not_true_eq_false] at hc <;> first | exact absurd rfl hc | (exfalso; first | exact absurd rfl hc | omega) | skip) | skip)) | (refine And.intro zp1 ?_) | (apply And.intro) | (intro s hs; skip) | (refine Exists.intro _ (And.intro ⟨rfl, rfl, rfl⟩ ?_)))
   . conv => whnf
     exact ⟨⟨(p + 1, _), hpl, n1 hc⟩, [], by dsimp only; omega, rfl, ⟨leF_c (leC_cl (cl_slBN L)), leF_int rfl, leF_cl (cl_slB eSm S), leF_int rfl, leF_c (leC_os rfl rfl), leF_int rfl, leF_int rfl, leF_int rfl, leF_ptr rfl, leF_cl (cl_slB eSm S), leF_int rfl, leF_int w4, trivial⟩, ⟨⟨rfl, leN_entP (by omega) (lt8 rfl rfl rfl rfl rfl rfl rfl rfl)⟩, ⟨rfl, leN_entN⟩, ⟨rfl, leN_entN⟩, ⟨rfl, leN_entN⟩, ⟨rfl, leN_entN⟩, ⟨rfl, leN_entN⟩, ⟨rfl, leN_entN⟩, ⟨rfl, leN_entN⟩, ⟨rfl, leN_entN⟩, ⟨rfl, leN_varA (lt3c ⟨leC_int rfl, leC_int rfl, leC_int rfl⟩)⟩, trivial⟩⟩
   . conv => whnf
     exact ⟨⟨(p + 1, a), hpl, n2 hc⟩, [], by dsimp only; omega, rfl, ⟨leF_c (leC_cl (cl_slBN L)), leF_int rfl, leF_cl (cl_slB eSm S), leF_int rfl, leF_c (leC_os rfl rfl), leF_int rfl, leF_int rfl, leF_int rfl, leF_ptr rfl, leF_cl (cl_slB eSm S), leF_int rfl, leF_int w4, trivial⟩, ⟨⟨rfl, leN_entP (by omega) (lt8 rfl rfl rfl rfl rfl rfl rfl rfl)⟩, ⟨rfl, leN_entN⟩, ⟨rfl, leN_entN⟩, ⟨rfl, leN_entN⟩, ⟨rfl, leN_entN⟩, ⟨rfl, leN_entN⟩, ⟨rfl, leN_entN⟩, ⟨rfl, leN_entN⟩, ⟨rfl, leN_entN⟩, ⟨rfl, leN_varA fun j hj => (Elem.flat _ _ _).le⟩, trivial⟩⟩
 . obtain rfl : a = W := by
    rw [List.drop_of_length_le (by omega)] at hW; exact hW
   clear hW
   have hWm : 0 <= a.mn /\ a.mn <= 1073741824 := by rw [<- eW]; exact pick_ok (fun x hx => (hSm x hx).2) ⟨Int.le_refl _, by decide⟩
   repeat' (first | (apply And.intro <;> intro hc <;> (first | exact Bool.noConfusion hc | (exfalso; first | exact absurd rfl hc | omega) | (simp only [zb0, ne_eq, not_true_eq_false] at hc <;> first | exact absurd rfl hc | (exfalso; first | exact absurd rfl hc | omega) | skip) | skip)) | (refine And.intro zp1 ?_) | (apply And.intro) | (intro s hs; skip) | (refine Exists.intro _ (And.intro ⟨rfl, rfl, rfl⟩ ?_)))
   conv => whnf
   refine loop_intro (mono_of LMq_ok) (fun s : MapI (cmpH a now draw) (M.getD 4 default).held => (⟨[(0, one (slBN neS L)), (1, one (.int .i64 now)), (2, one (slB eSm S)), (3, one (.int .u32 draw)), (11, one (.os 1 0 M.length)), (35, one (.int .i64 (L.length : Int))), (36, one (.int .i64 ((4 : Nat) : Int))), (12, one (.int .i64 ((4 : Nat) : Int))), (13, one (.ptr 10 0 0 false)), (60, one (.int .i64 ((M.getD 4 default).held.length : Int))), (61, one (.int .i64 (s.i : Int)))], [(1, some (entP 2 M.length M)), (2, some (entH (M.getD 0 default).held)), (3, some (entH (M.getD 1 default).held)), (4, some (entH (M.getD 2 default).held)), (5, some (entH (M.getD 3 default).held)), (6, some (entH s.M)), (7, some (entH (M.getD 5 default).held)), (8, some (entH (M.getD 6 default).held)), (9, some (entH (M.getD 7 default).held)), (10, some ⟨60, 1, 3, true, fun _ => eSm.cell a⟩)], 11⟩ : Hd)) (fun s => (M.getD 4 default).held.length - s.i) (fun _ => rfl) ?_ (MapI.start _ _) [] ⟨rfl, ⟨leF_c (leC_cl (cl_slBN L)), leF_int rfl, leF_cl (cl_slB eSm S), leF_int rfl, leF_c (leC_os rfl rfl), leF_int rfl, leF_int rfl, leF_int rfl, leF_ptr rfl, leF_int rfl, leF_int rfl, trivial⟩, ⟨⟨rfl, leN_entP (by omega) (lt8 rfl rfl rfl rfl rfl rfl rfl rfl)⟩, ⟨rfl, leN_entN⟩, ⟨rfl, leN_entN⟩, ⟨rfl, leN_entN⟩, ⟨rfl, leN_entN⟩, ⟨rfl, leN_entN⟩, ⟨rfl, leN_entN⟩, ⟨rfl, leN_entN⟩, ⟨rfl, leN_entN⟩, ⟨rfl, leN_varA fun j hj => (Elem.flat _ _ _).le⟩, trivial⟩⟩
   intro s0
   by_cases hkn : s0.i < (M.getD 4 default).held.length
   . have w4 : IntKind.i64.wrap ((s0.i : Int) + 1) = ((s0.i + 1 : Nat) : Int) := (IntWalk.i64_in _ (by omega)).trans (by omega)
     have z0 : 0 + (s0.i : Int).toNat = s0.i := Nat.zero_add s0.i
     have eh := s0.h2 s0.i (Nat.le_refl _)
     have hl := s0.n
     have bk : Nat.beq s0.i s0.i = true := Nat.beq_refl _
     have hx := hels_ok hX (getD_in hkn)
     have hx1 := (vh_mem hX.h _ (getD_in hkn)).1
     rw [<- eh] at hx hx1
     have hxb := hx.b
     obtain ⟨B, eB2⟩ : ∃ B, hasB a (s0.M.getD s0.i default).num = B := ⟨_, rfl⟩
     obtain ⟨T, eT⟩ : ∃ T, resetT (s0.M.getD s0.i default).tm now draw = T := ⟨_, rfl⟩
     repeat' (first | (simp only [z0, w4, bk, Bool.cond_true]) | (apply And.intro <;> intro hc <;> (first | exact Bool.noConfusion hc | (exfalso; first | exact absurd rfl hc | omega) | (simp only [zb0, ne_eq, not_true_eq_false] at hc <;> first | exact absurd rfl hc | (exfalso; first | exact absurd rfl hc | omega) | skip) | skip)) | (refine And.intro zp1 ?_) | (apply And.intro) | (intro s hs; (first | (have q : B = s := eB2.symm.trans hs.symm; clear hs; subst q) | (have q : T = s := eT.symm.trans hs.symm; clear hs; subst q))) | (refine Exists.intro _ (And.intro ⟨rfl, rfl, rfl⟩ ?_)))
     . exact hc
     . conv => whnf
       refine ⟨s0.next hkn (s0.M.set s0.i { s0.M.getD s0.i default with tm := T.1 }) (by rw [<- eh, cmp_yes (by assumption) (eB2.trans (by assumption)) eT]), [], by dsimp only [MapI.next]; omega, rfl, ⟨leF_c (leC_cl (cl_slBN L)), leF_int rfl, leF_cl (cl_slB eSm S), leF_int rfl, leF_c (leC_os rfl rfl), leF_int rfl, leF_int rfl, leF_int rfl, leF_ptr rfl, leF_int rfl, leF_int w4, trivial⟩, ⟨⟨rfl, leN_entP (by omega) (lt8 rfl rfl rfl rfl rfl rfl rfl rfl)⟩, ⟨rfl, leN_entN⟩, ⟨rfl, leN_entN⟩, ⟨rfl, leN_entN⟩, ⟨rfl, leN_entN⟩, ⟨rfl, leN_oneH ?_⟩, ⟨rfl, leN_entN⟩, ⟨rfl, leN_entN⟩, ⟨rfl, leN_entN⟩, ⟨rfl, leN_varA fun j hj => (Elem.flat _ _ _).le⟩, trivial⟩⟩
       exact hel_set (by rw [hl]; exact hkn) (lt11c ⟨leC_int rfl, (neH.sh _ 1 (by decide)).le, leC_int rfl, leC_int rfl, leC_int rfl, leC_int rfl, leC_int rfl, leC_int rfl, leC_int rfl, leC_bool rfl, leC_int rfl⟩)
     . conv => whnf
       exact ⟨s0.next hkn s0.M (by rw [<- eh, cmp_no2 (eB2.trans (by assumption))]; exact gset_self (by rw [hl]; exact hkn)), [], by dsimp only [MapI.next]; omega, rfl, ⟨leF_c (leC_cl (cl_slBN L)), leF_int rfl, leF_cl (cl_slB eSm S), leF_int rfl, leF_c (leC_os rfl rfl), leF_int rfl, leF_int rfl, leF_int rfl, leF_ptr rfl, leF_int rfl, leF_int w4, trivial⟩, ⟨⟨rfl, leN_entP (by omega) (lt8 rfl rfl rfl rfl rfl rfl rfl rfl)⟩, ⟨rfl, leN_entN⟩, ⟨rfl, leN_entN⟩, ⟨rfl, leN_entN⟩, ⟨rfl, leN_entN⟩, ⟨rfl, leN_entN⟩, ⟨rfl, leN_entN⟩, ⟨rfl, leN_entN⟩, ⟨rfl, leN_entN⟩, ⟨rfl, leN_varA fun j hj => (Elem.flat _ _ _).le⟩, trivial⟩⟩
     . conv => whnf
       exact ⟨s0.next hkn s0.M (by rw [<- eh, cmp_no1 (by assumption)]; exact gset_self (by rw [hl]; exact hkn)), [], by dsimp only [MapI.next]; omega, rfl, ⟨leF_c (leC_cl (cl_slBN L)), leF_int rfl, leF_cl (cl_slB eSm S), leF_int rfl, leF_c (leC_os rfl rfl), leF_int rfl, leF_int rfl, leF_int rfl, leF_ptr rfl, leF_int rfl, leF_int w4, trivial⟩, ⟨⟨rfl, leN_entP (by omega) (lt8 rfl rfl rfl rfl rfl rfl rfl rfl)⟩, ⟨rfl, leN_entN⟩, ⟨rfl, leN_entN⟩, ⟨rfl, leN_entN⟩, ⟨rfl, leN_entN⟩, ⟨rfl, leN_entN⟩, ⟨rfl, leN_entN⟩, ⟨rfl, leN_entN⟩, ⟨rfl, leN_entN⟩, ⟨rfl, leN_varA fun j hj => (Elem.flat _ _ _).le⟩, trivial⟩⟩
   . have l1 := s0.last hkn
     have hkk := s0.hi
     have hl := s0.n
     have w6 : IntKind.i64.wrap ((4 : Int) + 1) = ((4 + 1 : Nat) : Int) := rfl
     repeat' (first | (apply And.intro <;> intro hc <;> (first | exact Bool.noConfusion hc | (exfalso; first | exact absurd rfl hc | omega) | (simp only [zb0, ne_eq, not_true_eq_false] at hc <;> first | exact absurd rfl hc | (exfalso; first | exact absurd rfl hc | omega) | skip) | skip)) | (refine And.intro zp1 ?_) | (apply And.intro) | (intro s hs; skip) | (refine Exists.intro _ (And.intro ⟨rfl, rfl, rfl⟩ ?_)))
     conv => whnf
     refine ⟨s', [], by show L.length - s'.i < _; rw [f4]; omega, rfl, ⟨leF_c (leC_cl (cl_slBN L)), leF_int rfl, leF_cl (cl_slB eSm S), leF_int rfl, leF_c (leC_os rfl (by rw [f1, List.length_set])), leF_int rfl, leF_int (by rw [f4]; rfl), trivial⟩, ⟨⟨rfl, ⟨rfl, by show _ = s'.M.length; rw [f1, List.length_set]; rfl, rfl, rfl, fun p hp j hj => ?_⟩⟩, ⟨rfl, leN_eqN (by rw [f1]; exact congrArg Sed.held (set_ne (by decide)).symm)⟩, ⟨rfl, leN_eqN (by rw [f1]; exact congrArg Sed.held (set_ne (by decide)).symm)⟩, ⟨rfl, leN_eqN (by rw [f1]; exact congrArg Sed.held (set_ne (by decide)).symm)⟩, ⟨rfl, leN_eqN (by rw [f1]; exact congrArg Sed.held (set_ne (by decide)).symm)⟩, ⟨rfl, leN_eqN (by rw [f1, set_at hiM]; exact l1.trans (by rw [<- eW]; rfl))⟩, ⟨rfl, leN_eqN (by rw [f1]; exact congrArg Sed.held (set_ne (by decide)).symm)⟩, ⟨rfl, leN_eqN (by rw [f1]; exact congrArg Sed.held (set_ne (by decide)).symm)⟩, ⟨rfl, leN_eqN (by rw [f1]; exact congrArg Sed.held (set_ne (by decide)).symm)⟩, trivial⟩⟩
     have hp : p < M.length := hp
     have hj : j < 3 := hj
     show LeC _ (rowP 2 M p j) (rowP 2 s'.M p j)
     rw [f1]
     rcases (show p = 0 \/ p = 1 \/ p = 2 \/ p = 3 \/ p = 4 \/ p = 5 \/ p = 6 \/ p = 7 by omega) with rfl | rfl | rfl | rfl | rfl | rfl | rfl | rfl
     all_goals first
      | exact rowP_set_ne hj (by decide) rfl rfl
      | skip
     refine rowP_set_at hiM ?_
     rcases j with _ | _ | _ | j
     . exact leC_int rfl
     . exact leC_int rfl
     . exact leC_os rfl (by show _ = (List.map _ _).length; rw [List.length_map])
     . omega
theorem cp_5 (L : List Sed) (S : List Smy) (now draw : Int) (hv : validL L = true) (hS : validSms S = true) (hd : drawOk draw) (ht : 0 <= now /\ now <= 1099511627776) (s : MapI (cmpS S now draw) L) (hi : s.i = 5) (hil : s.i < L.length) (K : Kt) :
 exec T (mkQ LMq) 1 Try.f29.ntmps 0 (loopIn (dropC 4 (Try.f29.body.getD Code.ret))) (SC L S now draw s).fr (SC L S now draw s).H (SC L S now draw s).nx (seqK (fun fr H _ => Goes (SC L S now draw) (fun s => L.length - s.i) 0 (L.length - s.i) fr H) K) := by
 have h8 := vl_len hv
 obtain ⟨hS8, hSm⟩ := vys hS
 have hX : SdOk (L.getD s.i default) := (vl_mem hv _ (getD_in hil)).2
 obtain ⟨s', es'⟩ : ∃ s', s.next hil _ rfl = s' := ⟨_, rfl⟩
 have f1 : s'.M = s.M.set s.i (cmpS S now draw (L.getD s.i default)) := by rw [<- es']; rfl
 have f4 : s'.i = s.i + 1 := by rw [<- es']; rfl
 clear es'
 obtain ⟨i, M, hn, hi0, h1, h2⟩ := s
 dsimp only at hi hil hX f1 f4
 subst hi
 have hiM : 5 < M.length := by omega
 have e0 := h2 5 (Nat.le_refl _)
 rw [<- e0] at hX f1
 have hk := hX.n
 have hmn := hX.mn
 unfold SC
 dsimp only
 clear h1 h2 e0
 repeat' (first | (apply And.intro <;> intro hc <;> (first | exact Bool.noConfusion hc | (exfalso; first | exact absurd rfl hc | omega) | (simp only [zb0, ne_eq, not_true_eq_false] at hc <;> first | exact absurd rfl hc | (exfalso; first | exact absurd rfl hc | omega) | skip) | skip)) | (refine And.intro zp1 ?_) | (apply And.intro) | (intro s hs; skip) | (refine Exists.intro _ (And.intro ⟨rfl, rfl, rfl⟩ ?_)))
 conv => whnf
 obtain ⟨W, eW⟩ : ∃ W, pickF (M.getD 5 default).id S ⟨0, 0, 0⟩ = W := ⟨_, rfl⟩
 refine loop_intro (mono_of LMq_ok) (fun s : {p : Nat × Smy // p.1 <= S.length /\ pickF (M.getD 5 default).id (S.drop p.1) p.2 = W} => (⟨[(0, one (slBN neS L)), (1, one (.int .i64 now)), (2, one (slB eSm S)), (3, one (.int .u32 draw)), (11, one (.os 1 0 M.length)), (35, one (.int .i64 (L.length : Int))), (36, one (.int .i64 ((5 : Nat) : Int))), (12, one (.int .i64 ((5 : Nat) : Int))), (13, one (.ptr 10 0 0 false)), (39, one (slB eSm S)), (40, one (.int .i64 (S.length : Int))), (41, one (.int .i64 (s.1.1 : Int)))], [(1, some (entP 2 M.length M)), (2, some (entH (M.getD 0 default).held)), (3, some (entH (M.getD 1 default).held)), (4, some (entH (M.getD 2 default).held)), (5, some (entH (M.getD 3 default).held)), (6, some (entH (M.getD 4 default).held)), (7, some (entH (M.getD 5 default).held)), (8, some (entH (M.getD 6 default).held)), (9, some (entH (M.getD 7 default).held)), (10, some ⟨60, 1, 3, true, fun _ => eSm.cell s.1.2⟩)], 11⟩ : Hd)) (fun s => S.length - s.1.1) (fun _ => rfl) ?_ ⟨(0, ⟨0, 0, 0⟩), Nat.zero_le _, eW⟩ [(10, some 13)] ⟨rfl, ⟨leF_c (leC_cl (cl_slBN L)), leF_int rfl, leF_cl (cl_slB eSm S), leF_int rfl, leF_c (leC_os rfl rfl), leF_int rfl, leF_int rfl, leF_int rfl, leF_ptr rfl, leF_cl (cl_slB eSm S), leF_int rfl, leF_int rfl, trivial⟩, ⟨⟨rfl, leN_entP (by omega) (lt8 rfl rfl rfl rfl rfl rfl rfl rfl)⟩, ⟨rfl, leN_entN⟩, ⟨rfl, leN_entN⟩, ⟨rfl, leN_entN⟩, ⟨rfl, leN_entN⟩, ⟨rfl, leN_entN⟩, ⟨rfl, leN_entN⟩, ⟨rfl, leN_entN⟩, ⟨rfl, leN_entN⟩, ⟨rfl, leN_varA (lt3c ⟨leC_int rfl, leC_int rfl, leC_int rfl⟩)⟩, trivial⟩⟩
 rintro ⟨⟨p, a⟩, hp, hW⟩
 dsimp only at hp hW ⊢
 unfold slB
 by_cases hpl : p < S.length
 . have w4 : IntKind.i64.wrap ((p : Int) + 1) = ((p + 1 : Nat) : Int) := (IntWalk.i64_in _ (by omega)).trans (by omega)
   have hst : pickF (M.getD 5 default).id (S.drop (p + 1)) (if (S.getD p default).id = (M.getD 5 default).id then S.getD p default else a) = W := by rw [<- hW, drop_at hpl]; rfl
   have n1 : (S.getD p default).id = (M.getD 5 default).id -> pickF (M.getD 5 default).id (S.drop (p + 1)) (S.getD p default) = W := fun h => by rw [if_pos h] at hst; exact hst
   have n2 : ¬ (S.getD p default).id = (M.getD 5 default).id -> pickF (M.getD 5 default).id (S.drop (p + 1)) a = W := fun h => by rw [if_neg h] at hst; exact hst
   clear hst
   repeat' (first | (simp only [w4]) | (apply And.intro <;> intro hc <;> (first | exact Bool.noConfusion hc | (exfalso; first | exact absurd rfl hc | omega) | (simp only [zb0, ne_eq, not_true_eq_false] at hc <;> first | exact absurd rfl hc | (exfalso; first | exact absurd rfl hc | omega) | skip) | skip)) | (refine And.intro zp1 ?_) | (apply And.intro) | (intro s hs; skip) | (refine Exists.intro _ (And.intro ⟨rfl, rfl, rfl⟩ ?_)))
   . conv => whnf
     exact ⟨⟨(p + 1, _), hpl, n1 hc⟩, [], by dsimp only; omega, rfl, ⟨leF_c (leC_cl (cl_slBN L)), leF_int rfl, leF_cl (cl_slB eSm S), leF_int rfl, leF_c (leC_os rfl rfl), leF_int rfl, leF_int rfl, leF_int rfl, leF_ptr rfl, leF_cl (cl_slB eSm S), leF_int rfl, leF_int w4, trivial⟩, ⟨⟨rfl, leN_entP (by omega) (lt8 rfl rfl rfl rfl rfl rfl rfl rfl)⟩, ⟨rfl, leN_entN⟩, ⟨rfl, leN_entN⟩, ⟨rfl, leN_entN⟩, ⟨rfl, leN_entN⟩, ⟨rfl, leN_entN⟩, ⟨rfl, leN_entN⟩, ⟨rfl, leN_entN⟩, ⟨rfl, leN_entN⟩, ⟨rfl, leN_varA (lt3c ⟨leC_int rfl, leC_int rfl, leC_int rfl⟩)⟩, trivial⟩⟩
   . conv => whnf
     exact ⟨⟨(p + 1, a), hpl, n2 hc⟩, [], by dsimp only; omega, rfl, ⟨leF_c (leC_cl (cl_slBN L)), leF_int rfl, leF_cl (cl_slB eSm S), leF_int rfl, leF_c (leC_os rfl rfl), leF_int rfl, leF_int rfl, leF_int rfl, leF_ptr rfl, leF_cl (cl_slB eSm S), leF_int rfl, leF_int w4, trivial⟩, ⟨⟨rfl, leN_entP (by omega) (lt8 rfl rfl rfl rfl rfl rfl rfl rfl)⟩, ⟨rfl, leN_entN⟩, ⟨rfl, leN_entN⟩, ⟨rfl, leN_entN⟩, ⟨rfl, leN_entN⟩, ⟨rfl, leN_entN⟩, ⟨rfl, leN_entN⟩, ⟨rfl, leN_entN⟩, ⟨rfl, leN_entN⟩, ⟨rfl, leN_varA fun j hj => (Elem.flat _ _ _).le⟩, trivial⟩⟩
 . obtain rfl : a = W := by
    rw [List.drop_of_length_le (by omega)] at hW; exact hW
   clear hW
   have hWm : 0 <= a.mn /\ a.mn <= 1073741824 := by rw [<- eW]; exact pick_ok (fun x hx => (hSm x hx).2) ⟨Int.le_refl _, by decide⟩
   repeat' (first | (apply And.intro <;> intro hc <;> (first | exact Bool.noConfusion hc | (exfalso; first | exact absurd rfl hc | omega) | (simp only [zb0, ne_eq, not_true_eq_false] at hc <;> first | exact absurd rfl hc | (exfalso; first | exact absurd rfl hc | omega) | skip) | skip)) | (refine And.intro zp1 ?_) | (apply And.intro) | (intro s hs; skip) | (refine Exists.intro _ (And.intro ⟨rfl, rfl, rfl⟩ ?_)))
   conv => whnf
   refine loop_intro (mono_of LMq_ok) (fun s : MapI (cmpH a now draw) (M.getD 5 default).held => (⟨[(0, one (slBN neS L)), (1, one (.int .i64 now)), (2, one (slB eSm S)), (3, one (.int .u32 draw)), (11, one (.os 1 0 M.length)), (35, one (.int .i64 (L.length : Int))), (36, one (.int .i64 ((5 : Nat) : Int))), (12, one (.int .i64 ((5 : Nat) : Int))), (13, one (.ptr 10 0 0 false)), (60, one (.int .i64 ((M.getD 5 default).held.length : Int))), (61, one (.int .i64 (s.i : Int)))], [(1, some (entP 2 M.length M)), (2, some (entH (M.getD 0 default).held)), (3, some (entH (M.getD 1 default).held)), (4, some (entH (M.getD 2 default).held)), (5, some (entH (M.getD 3 default).held)), (6, some (entH (M.getD 4 default).held)), (7, some (entH s.M)), (8, some (entH (M.getD 6 default).held)), (9, some (entH (M.getD 7 default).held)), (10, some ⟨60, 1, 3, true, fun _ => eSm.cell a⟩)], 11⟩ : Hd)) (fun s => (M.getD 5 default).held.length - s.i) (fun _ => rfl) ?_ (MapI.start _ _) [] ⟨rfl, ⟨leF_c (leC_cl (cl_slBN L)), leF_int rfl, leF_cl (cl_slB eSm S), leF_int rfl, leF_c (leC_os rfl rfl), leF_int rfl, leF_int rfl, leF_int rfl, leF_ptr rfl, leF_int rfl, leF_int rfl, trivial⟩, ⟨⟨rfl, leN_entP (by omega) (lt8 rfl rfl rfl rfl rfl rfl rfl rfl)⟩, ⟨rfl, leN_entN⟩, ⟨rfl, leN_entN⟩, ⟨rfl, leN_entN⟩, ⟨rfl, leN_entN⟩, ⟨rfl, leN_entN⟩, ⟨rfl, leN_entN⟩, ⟨rfl, leN_entN⟩, ⟨rfl, leN_entN⟩, ⟨rfl, leN_varA fun j hj => (Elem.flat _ _ _).le⟩, trivial⟩⟩
   intro s0
   by_cases hkn : s0.i < (M.getD 5 default).held.length
   . have w4 : IntKind.i64.wrap ((s0.i : Int) + 1) = ((s0.i + 1 : Nat) : Int) := (IntWalk.i64_in _ (by omega)).trans (by omega)
     have z0 : 0 + (s0.i : Int).toNat = s0.i := Nat.zero_add s0.i
     have eh := s0.h2 s0.i (Nat.le_refl _)
     have hl := s0.n
     have bk : Nat.beq s0.i s0.i = true := Nat.beq_refl _
     have hx := hels_ok hX (getD_in hkn)
     have hx1 := (vh_mem hX.h _ (getD_in hkn)).1
     rw [<- eh] at hx hx1
     have hxb := hx.b
     obtain ⟨B, eB2⟩ : ∃ B, hasB a (s0.M.getD s0.i default).num = B := ⟨_, rfl⟩
     obtain ⟨T, eT⟩ : ∃ T, resetT (s0.M.getD s0.i default).tm now draw = T := ⟨_, rfl⟩
     repeat' (first | (simp only [z0, w4, bk, Bool.cond_true]) | (apply And.intro <;> intro hc <;> (first | exact Bool.noConfusion hc | (exfalso; first | exact absurd rfl hc | omega) | (simp only [zb0, ne_eq, not_true_eq_false] at hc <;> first | exact absurd rfl hc | (exfalso; first | exact absurd rfl hc | omega) | skip) | skip)) | (refine And.intro zp1 ?_) | (apply And.intro) | (intro s hs; (first | (have q : B = s := eB2.symm.trans hs.symm; clear hs; subst q) | (have q : T = s := eT.symm.trans hs.symm; clear hs; subst q))) | (refine Exists.intro _ (And.intro ⟨rfl, rfl, rfl⟩ ?_)))
     . exact hc
     . conv => whnf
       refine ⟨s0.next hkn (s0.M.set s0.i { s0.M.getD s0.i default with tm := T.1 }) (by rw [<- eh, cmp_yes (by assumption) (eB2.trans (by assumption)) eT]), [], by dsimp only [MapI.next]; omega, rfl, ⟨leF_c (leC_cl (cl_slBN L)), leF_int rfl, leF_cl (cl_slB eSm S), leF_int rfl, leF_c (leC_os rfl rfl), leF_int rfl, leF_int rfl, leF_int rfl, leF_ptr rfl, leF_int rfl, leF_int w4, trivial⟩, ⟨⟨rfl, leN_entP (by omega) (lt8 rfl rfl rfl rfl rfl rfl rfl rfl)⟩, ⟨rfl, leN_entN⟩, ⟨rfl, leN_entN⟩, ⟨rfl, leN_entN⟩, ⟨rfl, leN_entN⟩, ⟨rfl, leN_entN⟩, ⟨rfl, leN_oneH ?_⟩, ⟨rfl, leN_entN⟩, ⟨rfl, leN_entN⟩, ⟨rfl, leN_varA fun j hj => (Elem.flat _ _ _).le⟩, trivial⟩⟩
       exact hel_set (by rw [hl]; exact hkn) (lt11c ⟨leC_int rfl, (neH.sh _ 1 (by decide)).le, leC_int rfl, leC_int rfl, leC_int rfl, leC_int rfl, leC_int rfl, leC_int rfl, leC_int rfl, leC_bool rfl, leC_int rfl⟩)
     . conv => whnf
       exact ⟨s0.next hkn s0.M (by rw [<- eh, cmp_no2 (eB2.trans (by assumption))]; exact gset_self (by rw [hl]; exact hkn)), [], by dsimp only [MapI.next]; omega, rfl, ⟨leF_c (leC_cl (cl_slBN L)), leF_int rfl, leF_cl (cl_slB eSm S), leF_int rfl, leF_c (leC_os rfl rfl), leF_int rfl, leF_int rfl, leF_int rfl, leF_ptr rfl, leF_int rfl, leF_int w4, trivial⟩, ⟨⟨rfl, leN_entP (by omega) (lt8 rfl rfl rfl rfl rfl rfl rfl rfl)⟩, ⟨rfl, leN_entN⟩, ⟨rfl, leN_entN⟩, ⟨rfl, leN_entN⟩, ⟨rfl, leN_entN⟩, ⟨rfl, leN_entN⟩, ⟨rfl, leN_entN⟩, ⟨rfl, leN_entN⟩, ⟨rfl, leN_entN⟩, ⟨rfl, leN_varA fun j hj => (Elem.flat _ _ _).le⟩, trivial⟩⟩
     . conv => whnf
       exact ⟨s0.next hkn s0.M (by rw [<- eh, cmp_no1 (by assumption)]; exact gset_self (by rw [hl]; exact hkn)), [], by dsimp only [MapI.next]; omega, rfl, ⟨leF_c (leC_cl (cl_slBN L)), leF_int rfl, leF_cl (cl_slB eSm S), leF_int rfl, leF_c (leC_os rfl rfl), leF_int rfl, leF_int rfl, leF_int rfl, leF_ptr rfl, leF_int rfl, leF_int w4, trivial⟩, ⟨⟨rfl, leN_entP (by omega) (lt8 rfl rfl rfl rfl rfl rfl rfl rfl)⟩, ⟨rfl, leN_entN⟩, ⟨rfl, leN_entN⟩, ⟨rfl, leN_entN⟩, ⟨rfl, leN_entN⟩, ⟨rfl, leN_entN⟩, ⟨rfl, leN_entN⟩, ⟨rfl, leN_entN⟩, ⟨rfl, leN_entN⟩, ⟨rfl, leN_varA fun j hj => (Elem.flat _ _ _).le⟩, trivial⟩⟩
   . have l1 := s0.last hkn
     have hkk := s0.hi
     have hl := s0.n
     have w6 : IntKind.i64.wrap ((5 : Int) + 1) = ((5 + 1 : Nat) : Int) := rfl
     repeat' (first | (apply And.intro <;> intro hc <;> (first | exact Bool.noConfusion hc | (exfalso; first | exact absurd rfl hc | omega) | (simp only [zb0, ne_eq, not_true_eq_false] at hc <;> first | exact absurd rfl hc | (exfalso; first | exact absurd rfl hc | omega) | skip) | skip)) | (refine And.intro zp1 ?_) | (apply And.intro) | (intro s hs; skip) | (refine Exists.intro _ (And.intro ⟨rfl, rfl, rfl⟩ ?_)))
     conv => whnf
     refine ⟨s', [], by show L.length - s'.i < _; rw [f4]; omega, rfl, ⟨leF_c (leC_cl (cl_slBN L)), leF_int rfl, leF_cl (cl_slB eSm S), leF_int rfl, leF_c (leC_os rfl (by rw [f1, List.length_set])), leF_int rfl, leF_int (by rw [f4]; rfl), trivial⟩, ⟨⟨rfl, ⟨rfl, by show _ = s'.M.length; rw [f1, List.length_set]; rfl, rfl, rfl, fun p hp j hj => ?_⟩⟩, ⟨rfl, leN_eqN (by rw [f1]; exact congrArg Sed.held (set_ne (by decide)).symm)⟩, ⟨rfl, leN_eqN (by rw [f1]; exact congrArg Sed.held (set_ne (by decide)).symm)⟩, ⟨rfl, leN_eqN (by rw [f1]; exact congrArg Sed.held (set_ne (by decide)).symm)⟩, ⟨rfl, leN_eqN (by rw [f1]; exact congrArg Sed.held (set_ne (by decide)).symm)⟩, ⟨rfl, leN_eqN (by rw [f1]; exact congrArg Sed.held (set_ne (by decide)).symm)⟩, ⟨rfl, leN_eqN (by rw [f1, set_at hiM]; exact l1.trans (by rw [<- eW]; rfl))⟩, ⟨rfl, leN_eqN (by rw [f1]; exact congrArg Sed.held (set_ne (by decide)).symm)⟩, ⟨rfl, leN_eqN (by rw [f1]; exact congrArg Sed.held (set_ne (by decide)).symm)⟩, trivial⟩⟩
     have hp : p < M.length := hp
     have hj : j < 3 := hj
     show LeC _ (rowP 2 M p j) (rowP 2 s'.M p j)
     rw [f1]
     rcases (show p = 0 \/ p = 1 \/ p = 2 \/ p = 3 \/ p = 4 \/ p = 5 \/ p = 6 \/ p = 7 by omega) with rfl | rfl | rfl | rfl | rfl | rfl | rfl | rfl
     all_goals first
      | exact rowP_set_ne hj (by decide) rfl rfl
      | skip
     refine rowP_set_at hiM ?_
     rcases j with _ | _ | _ | j
     . exact leC_int rfl
     . exact leC_int rfl
     . exact leC_os rfl (by show _ = (List.map _ _).length; rw [List.length_map])
     . omega
theorem cp_6 (L : List Sed) (S : List Smy) (now draw : Int) (hv : validL L = true) (hS : validSms S = true) (hd : drawOk draw) (ht : 0 <= now /\ now <= 1099511627776) (s : MapI (cmpS S now draw) L) (hi : s.i = 6) (hil : s.i < L.length) (K : Kt) :
 exec T (mkQ LMq) 1 Try.f29.ntmps 0 (loopIn (dropC 4 (Try.f29.body.getD Code.ret))) (SC L S now draw s).fr (SC L S now draw s).H (SC L S now draw s).nx (seqK (fun fr H _ => Goes (SC L S now draw) (fun s => L.length - s.i) 0 (L.length - s.i) fr H) K) := by
 have h8 := vl_len hv
 obtain ⟨hS8, hSm⟩ := vys hS
 have hX : SdOk (L.getD s.i default) := (vl_mem hv _ (getD_in hil)).2
 obtain ⟨s', es'⟩ : ∃ s', s.next hil _ rfl = s' := ⟨_, rfl⟩
 have f1 : s'.M = s.M.set s.i (cmpS S now draw (L.getD s.i default)) := by rw [<- es']; rfl
 have f4 : s'.i = s.i + 1 := by rw [<- es']; rfl
 clear es'
 obtain ⟨i, M, hn, hi0, h1, h2⟩ := s
 dsimp only at hi hil hX f1 f4
 subst hi
 have hiM : 6 < M.length := by omega
 have e0 := h2 6 (Nat.le_refl _)
 rw [<- e0] at hX f1
 have hk := hX.n
 have hmn := hX.mn
 unfold SC
 dsimp only
 clear h1 h2 e0
 repeat' (first | (apply And.intro <;> intro hc <;> (first | exact Bool.noConfusion hc | (exfalso; first | exact absurd rfl hc | omega) | (simp only [zb0, ne_eq, not_true_eq_false] at hc <;> first | exact absurd rfl hc | (exfalso; first | exact absurd rfl hc | omega) | skip) | skip)) | (refine And.intro zp1 ?_) | (apply And.intro) | (intro s hs; skip) | (refine Exists.intro _ (And.intro ⟨rfl, rfl, rfl⟩ ?_)))
 conv => whnf
 obtain ⟨W, eW⟩ : ∃ W, pickF (M.getD 6 default).id S ⟨0, 0, 0⟩ = W := ⟨_, rfl⟩
 refine loop_intro (mono_of LMq_ok) (fun s : {p : Nat × Smy // p.1 <= S.length /\ pickF (M.getD 6 default).id (S.drop p.1) p.2 = W} => (⟨[(0, one (slBN neS L)), (1, one (.int .i64 now)), (2, one (slB eSm S)), (3, one (.int .u32 draw)), (11, one (.os 1 0 M.length)), (35, one (.int .i64 (L.length : Int))), (36, one (.int .i64 ((6 : Nat) : Int))), (12, one (.int .i64 ((6 : Nat) : Int))), (13, one (.ptr 10 0 0 false)), (39, one (slB eSm S)), (40, one (.int .i64 (S.length : Int))), (41, one (.int .i64 (s.1.1 : Int)))], [(1, some (entP 2 M.length M)), (2, some (entH (M.getD 0 default).held)), (3, some (entH (M.getD 1 default).held)), (4, some (entH (M.getD 2 default).held)), (5, some (entH (M.getD 3 default).held)), (6, some (entH (M.getD 4 default).held)), (7, some (entH (M.getD 5 default).held)), (8, some (entH (M.getD 6 default).held)), (9, some (entH (M.getD 7 default).held)), (10, some ⟨60, 1, 3, true, fun _ => eSm.cell s.1.2⟩)], 11⟩ : Hd)) (fun s => S.length - s.1.1) (fun _ => rfl) ?_ ⟨(0, ⟨0, 0, 0⟩), Nat.zero_le _, eW⟩ [(10, some 13)] ⟨rfl, ⟨leF_c (leC_cl (cl_slBN L)), leF_int rfl, leF_cl (cl_slB eSm S), leF_int rfl, leF_c (leC_os rfl rfl), leF_int rfl, leF_int rfl, leF_int rfl, leF_ptr rfl, leF_cl (cl_slB eSm S), leF_int rfl, leF_int rfl, trivial⟩, ⟨⟨rfl, leN_entP (by omega) (lt8 rfl rfl rfl rfl rfl rfl rfl rfl)⟩, ⟨rfl, leN_entN⟩, ⟨rfl, leN_entN⟩, ⟨rfl, leN_entN⟩, ⟨rfl, leN_entN⟩, ⟨rfl, leN_entN⟩, ⟨rfl, leN_entN⟩, ⟨rfl, leN_entN⟩, ⟨rfl, leN_entN⟩, ⟨rfl, leN_varA (lt3c ⟨leC_int rfl, leC_int rfl, leC_int rfl⟩)⟩, trivial⟩⟩
 rintro ⟨⟨p, a⟩, hp, hW⟩
 dsimp only at hp hW ⊢
 unfold slB
 by_cases hpl : p < S.length
 . have w4 : IntKind.i64.wrap ((p : Int) + 1) = ((p + 1 : Nat) : Int) := (IntWalk.i64_in _ (by omega)).trans (by omega)
   have hst : pickF (M.getD 6 default).id (S.drop (p + 1)) (if (S.getD p default).id = (M.getD 6 default).id then S.getD p default else a) = W := by rw [<- hW, drop_at hpl]; rfl
   have n1 : (S.getD p default).id = (M.getD 6 default).id -> pickF (M.getD 6 default).id (S.drop (p + 1)) (S.getD p default) = W := fun h => by rw [if_pos h] at hst; exact hst
   have n2 : ¬ (S.getD p default).id = (M.getD 6 default).id -> pickF (M.getD 6 default).id (S.drop (p + 1)) a = W := fun h => by rw [if_neg h] at hst; exact hst
   clear hst
   repeat' (first | (simp only [w4]) | (apply And.intro <;> intro hc <;> (first | exact Bool.noConfusion hc | (exfalso; first | exact absurd rfl hc | omega) | (simp only [zb0, ne_eq, not_true_eq_false] at hc <;> first | exact absurd rfl hc | (exfalso; first | exact absurd rfl hc | omega) | skip) | skip)) | (refine And.intro zp1 ?_) | (apply And.intro) | (intro s hs; skip) | (refine Exists.intro _ (And.intro ⟨rfl, rfl, rfl⟩ ?_)))
   . conv => whnf
     exact ⟨⟨(p + 1, _), hpl, n1 hc⟩, [], by dsimp only; omega, rfl, ⟨leF_c (leC_cl (cl_slBN L)), leF_int rfl, leF_cl (cl_slB eSm S), leF_int rfl, leF_c (leC_os rfl rfl), leF_int rfl, leF_int rfl, leF_int rfl, leF_ptr rfl, leF_cl (cl_slB eSm S), leF_int rfl, leF_int w4, trivial⟩, ⟨⟨rfl, leN_entP (by omega) (lt8 rfl rfl rfl rfl rfl rfl rfl rfl)⟩, ⟨rfl, leN_entN⟩, ⟨rfl, leN_entN⟩, ⟨rfl, leN_entN⟩, ⟨rfl, leN_entN⟩, ⟨rfl, leN_entN⟩, ⟨rfl, leN_entN⟩, ⟨rfl, leN_entN⟩, ⟨rfl, leN_entN⟩, ⟨rfl, leN_varA (lt3c ⟨leC_int rfl, leC_int rfl, leC_int rfl⟩)⟩, trivial⟩⟩
   . conv => whnf
     exact ⟨⟨(p + 1, a), hpl, n2 hc⟩, [], by dsimp only; omega, rfl, ⟨leF_c (leC_cl (cl_slBN L)), leF_int rfl, leF_cl (cl_slB eSm S), leF_int rfl, leF_c (leC_os rfl rfl), leF_int rfl, leF_int rfl, leF_int rfl, leF_ptr rfl, leF_cl (cl_slB eSm S), leF_int rfl, leF_int w4, trivial⟩, ⟨⟨rfl, leN_entP (by omega) (lt8 rfl rfl rfl rfl rfl rfl rfl rfl)⟩, ⟨rfl, leN_entN⟩, ⟨rfl, leN_entN⟩, ⟨rfl, leN_entN⟩, ⟨rfl, leN_entN⟩, ⟨rfl, leN_entN⟩, ⟨rfl, leN_entN⟩, ⟨rfl, leN_entN⟩, ⟨rfl, leN_entN⟩, ⟨rfl, leN_varA fun j hj => (Elem.flat _ _ _).le⟩, trivial⟩⟩
 . obtain rfl : a = W := by
    rw [List.drop_of_length_le (by omega)] at hW; exact hW
   clear hW
   have hWm : 0 <= a.mn /\ a.mn <= 1073741824 := by rw [<- eW]; exact pick_ok (fun x hx => (hSm x hx).2) ⟨Int.le_refl _, by decide⟩
   repeat' (first | (apply And.intro <;> intro hc <;> (first | exact Bool.noConfusion hc | (exfalso; first | exact absurd rfl hc | omega) | (simp only [zb0, ne_eq, not_true_eq_false] at hc <;> first | exact absurd rfl hc | (exfalso; first | exact absurd rfl hc | omega) | skip) | skip)) | (refine And.intro zp1 ?_) | (apply And.intro) | (intro s hs; skip) | (refine Exists.intro _ (And.intro ⟨rfl, rfl, rfl⟩ ?_)))
   conv => whnf
   refine loop_intro (mono_of LMq_ok) (fun s : MapI (cmpH a now draw) (M.getD 6 default).held => (⟨[(0, one (slBN neS L)), (1, one (.int .i64 now)), (2, one (slB eSm S)), (3, one (.int .u32 draw)), (11, one (.os 1 0 M.length)), (35, one (.int .i64 (L.length : Int))), (36, one (.int .i64 ((6 : Nat) : Int))), (12, one (.int .i64 ((6 : Nat) : Int))), (13, one (.ptr 10 0 0 false)), (60, one (.int .i64 ((M.getD 6 default).held.length : Int))), (61, one (.int .i64 (s.i : Int)))], [(1, some (entP 2 M.length M)), (2, some (entH (M.getD 0 default).held)), (3, some (entH (M.getD 1 default).held)), (4, some (entH (M.getD 2 default).held)), (5, some (entH (M.getD 3 default).held)), (6, some (entH (M.getD 4 default).held)), (7, some (entH (M.getD 5 default).held)), (8, some (entH s.M)), (9, some (entH (M.getD 7 default).held)), (10, some ⟨60, 1, 3, true, fun _ => eSm.cell a⟩)], 11⟩ : Hd)) (fun s => (M.getD 6 default).held.length - s.i) (fun _ => rfl) ?_ (MapI.start _ _) [] ⟨rfl, ⟨leF_c (leC_cl (cl_slBN L)), leF_int rfl, leF_cl (cl_slB eSm S), leF_int rfl, leF_c (leC_os rfl rfl), leF_int rfl, leF_int rfl, leF_int rfl, leF_ptr rfl, leF_int rfl, leF_int rfl, trivial⟩, ⟨⟨rfl, leN_entP (by omega) (lt8 rfl rfl rfl rfl rfl rfl rfl rfl)⟩, ⟨rfl, leN_entN⟩, ⟨rfl, leN_entN⟩, ⟨rfl, leN_entN⟩, ⟨rfl, leN_entN⟩, ⟨rfl, leN_entN⟩, ⟨rfl, leN_entN⟩, ⟨rfl, leN_entN⟩, ⟨rfl, leN_entN⟩, ⟨rfl, leN_varA fun j hj => (Elem.flat _ _ _).le⟩, trivial⟩⟩
   intro s0
   by_cases hkn : s0.i < (M.getD 6 default).held.length
   . have w4 : IntKind.i64.wrap ((s0.i : Int) + 1) = ((s0.i + 1 : Nat) : Int) := (IntWalk.i64_in _ (by omega)).trans (by omega)
     have z0 : 0 + (s0.i : Int).toNat = s0.i := Nat.zero_add s0.i
     have eh := s0.h2 s0.i (Nat.le_refl _)
     have hl := s0.n
     have bk : Nat.beq s0.i s0.i = true := Nat.beq_refl _
     have hx := hels_ok hX (getD_in hkn)
     have hx1 := (vh_mem hX.h _ (getD_in hkn)).1
     rw [<- eh] at hx hx1
     have hxb := hx.b
     obtain ⟨B, eB2⟩ : ∃ B, hasB a (s0.M.getD s0.i default).num = B := ⟨_, rfl⟩
     obtain ⟨T, eT⟩ : ∃ T, resetT (s0.M.getD s0.i default).tm now draw = T := ⟨_, rfl⟩
     repeat' (first | (simp only [z0, w4, bk, Bool.cond_true]) | (apply And.intro <;> intro hc <;> (first | exact Bool.noConfusion hc | (exfalso; first | exact absurd rfl hc | omega) | (simp only [zb0, ne_eq, not_true_eq_false] at hc <;> first | exact absurd rfl hc | (exfalso; first | exact absurd rfl hc | omega) | skip) | skip)) | (refine And.intro zp1 ?_) | (apply And.intro) | (intro s hs; (first | (have q : B = s := eB2.symm.trans hs.symm; clear hs; subst q) | (have q : T = s := eT.symm.trans hs.symm; clear hs; subst q))) | (refine Exists.intro _ (And.intro ⟨rfl, rfl, rfl⟩ ?_)))
     . exact hc
     . conv => whnf
       refine ⟨s0.next hkn (s0.M.set s0.i { s0.M.getD s0.i default with tm := T.1 }) (by rw [<- eh, cmp_yes (by assumption) (eB2.trans (by assumption)) eT]), [], by dsimp only [MapI.next]; omega, rfl, ⟨leF_c (leC_cl (cl_slBN L)), leF_int rfl, leF_cl (cl_slB eSm S), leF_int rfl, leF_c (leC_os rfl rfl), leF_int rfl, leF_int rfl, leF_int rfl, leF_ptr rfl, leF_int rfl, leF_int w4, trivial⟩, ⟨⟨rfl, leN_entP (by omega) (lt8 rfl rfl rfl rfl rfl rfl rfl rfl)⟩, ⟨rfl, leN_entN⟩, ⟨rfl, leN_entN⟩, ⟨rfl, leN_entN⟩, ⟨rfl, leN_entN⟩, ⟨rfl, leN_entN⟩, ⟨rfl, leN_entN⟩, ⟨rfl, leN_oneH ?_⟩, ⟨rfl, leN_entN⟩, ⟨rfl, leN_varA fun j hj => (Elem.flat _ _ _).le⟩, trivial⟩⟩
       exact hel_set (by rw [hl]; exact hkn) (lt11c ⟨leC_int rfl, (neH.sh _ 1 (by decide)).le, leC_int rfl, leC_int rfl, leC_int rfl, leC_int rfl, leC_int rfl, leC_int rfl, leC_int rfl, leC_bool rfl, leC_int rfl⟩)
     . conv => whnf
       exact ⟨s0.next hkn s0.M (by rw [<- eh, cmp_no2 (eB2.trans (by assumption))]; exact gset_self (by rw [hl]; exact hkn)), [], by dsimp only [MapI.next]; omega, rfl, ⟨leF_c (leC_cl (cl_slBN L)), leF_int rfl, leF_cl (cl_slB eSm S), leF_int rfl, leF_c (leC_os rfl rfl), leF_int rfl, leF_int rfl, leF_int rfl, leF_ptr rfl, leF_int rfl, leF_int w4, trivial⟩, ⟨⟨rfl, leN_entP (by omega) (lt8 rfl rfl rfl rfl rfl rfl rfl rfl)⟩, ⟨rfl, leN_entN⟩, ⟨rfl, leN_entN⟩, ⟨rfl, leN_entN⟩, ⟨rfl, leN_entN⟩, ⟨rfl, leN_entN⟩, ⟨rfl, leN_entN⟩, ⟨rfl, leN_entN⟩, ⟨rfl, leN_entN⟩, ⟨rfl, leN_varA fun j hj => (Elem.flat _ _ _).le⟩, trivial⟩⟩
     . conv => whnf
       exact ⟨s0.next hkn s0.M (by rw [<- eh, cmp_no1 (by assumption)]; exact gset_self (by rw [hl]; exact hkn)), [], by dsimp only [MapI.next]; omega, rfl, ⟨leF_c (leC_cl (cl_slBN L)), leF_int rfl, leF_cl (cl_slB eSm S), leF_int rfl, leF_c (leC_os rfl rfl), leF_int rfl, leF_int rfl, leF_int rfl, leF_ptr rfl, leF_int rfl, leF_int w4, trivial⟩, ⟨⟨rfl, leN_entP (by omega) (lt8 rfl rfl rfl rfl rfl rfl rfl rfl)⟩, ⟨rfl, leN_entN⟩, ⟨rfl, leN_entN⟩, ⟨rfl, leN_entN⟩, ⟨rfl, leN_entN⟩, ⟨rfl, leN_entN⟩, ⟨rfl, leN_entN⟩, ⟨rfl, leN_entN⟩, ⟨rfl, leN_entN⟩, ⟨rfl, leN_varA fun j hj => (Elem.flat _ _ _).le⟩, trivial⟩⟩
   . have l1 := s0.last hkn
     have hkk := s0.hi
     have hl := s0.n
     have w6 : IntKind.i64.wrap ((6 : Int) + 1) = ((6 + 1 : Nat) : Int) := rfl
     repeat' (first | (apply And.intro <;> intro hc <;> (first | exact Bool.noConfusion hc | (exfalso; first | exact absurd rfl hc | omega) | (simp only [zb0, ne_eq, not_true_eq_false] at hc <;> first | exact absurd rfl hc | (exfalso; first | exact absurd rfl hc | omega) | skip) | skip)) | (refine And.intro zp1 ?_) | (apply And.intro) | (intro s hs; skip) | (refine Exists.intro _ (And.intro ⟨rfl, rfl, rfl⟩ ?_)))
     conv => whnf
     refine ⟨s', [], by show L.length - s'.i < _; rw [f4]; omega, rfl, ⟨leF_c (leC_cl (cl_slBN L)), leF_int rfl, leF_cl (cl_slB eSm S), leF_int rfl, leF_c (leC_os rfl (by rw [f1, List.length_set])), leF_int rfl, leF_int (by rw [f4]; rfl), trivial⟩, ⟨⟨rfl, ⟨rfl, by show _ = s'.M.length; rw [f1, List.length_set]; rfl, rfl, rfl, fun p hp j hj => ?_⟩⟩, ⟨rfl, leN_eqN (by rw [f1]; exact congrArg Sed.held (set_ne (by decide)).symm)⟩, ⟨rfl, leN_eqN (by rw [f1]; exact congrArg Sed.held (set_ne (by decide)).symm)⟩, ⟨rfl, leN_eqN (by rw [f1]; exact congrArg Sed.held (set_ne (by decide)).symm)⟩, ⟨rfl, leN_eqN (by rw [f1]; exact congrArg Sed.held (set_ne (by decide)).symm)⟩, ⟨rfl, leN_eqN (by rw [f1]; exact congrArg Sed.held (set_ne (by decide)).symm)⟩, ⟨rfl, leN_eqN (by rw [f1]; exact congrArg Sed.held (set_ne (by decide)).symm)⟩, ⟨rfl, leN_eqN (by rw [f1, set_at hiM]; exact l1.trans (by rw [<- eW]; rfl))⟩, ⟨rfl, leN_eqN (by rw [f1]; exact congrArg Sed.held (set_ne (by decide)).symm)⟩, trivial⟩⟩
     have hp : p < M.length := hp
     have hj : j < 3 := hj
     show LeC _ (rowP 2 M p j) (rowP 2 s'.M p j)
     rw [f1]
     rcases (show p = 0 \/ p = 1 \/ p = 2 \/ p = 3 \/ p = 4 \/ p = 5 \/ p = 6 \/ p = 7 by omega) with rfl | rfl | rfl | rfl | rfl | rfl | rfl | rfl
     all_goals first
      | exact rowP_set_ne hj (by decide) rfl rfl
      | skip
     refine rowP_set_at hiM ?_
     rcases j with _ | _ | _ | j
     . exact leC_int rfl
     . exact leC_int rfl
     . exact leC_os rfl (by show _ = (List.map _ _).length; rw [List.length_map])
     . omega
theorem cp_7 (L : List Sed) (S : List Smy) (now draw : Int) (hv : validL L = true) (hS : validSms S = true) (hd : drawOk draw) (ht : 0 <= now /\ now <= 1099511627776) (s : MapI (cmpS S now draw) L) (hi : s.i = 7) (hil : s.i < L.length) (K : Kt) :
 exec T (mkQ LMq) 1 Try.f29.ntmps 0 (loopIn (dropC 4 (Try.f29.body.getD Code.ret))) (SC L S now draw s).fr (SC L S now draw s).H (SC L S now draw s).nx (seqK (fun fr H _ => Goes (SC L S now draw) (fun s => L.length - s.i) 0 (L.length - s.i) fr H) K) := by
 have h8 := vl_len hv
 obtain ⟨hS8, hSm⟩ := vys hS
 have hX : SdOk (L.getD s.i default) := (vl_mem hv _ (getD_in hil)).2
 obtain ⟨s', es'⟩ : ∃ s', s.next hil _ rfl = s' := ⟨_, rfl⟩
 have f1 : s'.M = s.M.set s.i (cmpS S now draw (L.getD s.i default)) := by rw [<- es']; rfl
 have f4 : s'.i = s.i + 1 := by rw [<- es']; rfl
 clear es'
 obtain ⟨i, M, hn, hi0, h1, h2⟩ := s
 dsimp only at hi hil hX f1 f4
 subst hi
 have hiM : 7 < M.length := by omega
 have e0 := h2 7 (Nat.le_refl _)
 rw [<- e0] at hX f1
 have hk := hX.n
 have hmn := hX.mn
 unfold SC
 dsimp only
 clear h1 h2 e0
 repeat' (first | (apply And.intro <;> intro hc <;> (first | exact Bool.noConfusion hc | (exfalso; first | exact absurd rfl hc | omega) | (simp only [zb0, ne_eq, not_true_eq_false] at hc <;> first | exact absurd rfl hc | (exfalso; first | exact absurd rfl hc | omega) | skip) | skip)) | (refine And.intro zp1 ?_) | (apply And.intro) | (intro s hs; skip) | (refine Exists.intro _ (And.intro ⟨rfl, rfl, rfl⟩ ?_)))
 conv => whnf
 obtain ⟨W, eW⟩ : ∃ W, pickF (M.getD 7 default).id S ⟨0, 0, 0⟩ = W := ⟨_, rfl⟩
 refine loop_intro (mono_of LMq_ok) (fun s : {p : Nat × Smy // p.1 <= S.length /\ pickF (M.getD 7 default).id (S.drop p.1) p.2 = W} => (⟨[(0, one (slBN neS L)), (1, one (.int .i64 now)), (2, one (slB eSm S)), (3, one (.int .u32 draw)), (11, one (.os 1 0 M.length)), (35, one (.int .i64 (L.length : Int))), (36, one (.int .i64 ((7 : Nat) : Int))), (12, one (.int .i64 ((7 : Nat) : Int))), (13, one (.ptr 10 0 0 false)), (39, one (slB eSm S)), (40, one (.int .i64 (S.length : Int))), (41, one (.int .i64 (s.1.1 : Int)))], [(1, some (entP 2 M.length M)), (2, some (entH (M.getD 0 default).held)), (3, some (entH (M.getD 1 default).held)), (4, some (entH (M.getD 2 default).held)), (5, some (entH (M.getD 3 default).held)), (6, some (entH (M.getD 4 default).held)), (7, some (entH (M.getD 5 default).held)), (8, some (entH (M.getD 6 default).held)), (9, some (entH (M.getD 7 default).held)), (10, some ⟨60, 1, 3, true, fun _ => eSm.cell s.1.2⟩)], 11⟩ : Hd)) (fun s => S.length - s.1.1) (fun _ => rfl) ?_ ⟨(0, ⟨0, 0, 0⟩), Nat.zero_le _, eW⟩ [(10, some 13)] ⟨rfl, ⟨leF_c (leC_cl (cl_slBN L)), leF_int rfl, leF_cl (cl_slB eSm S), leF_int rfl, leF_c (leC_os rfl rfl), leF_int rfl, leF_int rfl, leF_int rfl, leF_ptr rfl, leF_cl (cl_slB eSm S), leF_int rfl, leF_int rfl, trivial⟩, ⟨⟨rfl, leN_entP (by omega) (lt8 rfl rfl rfl rfl rfl rfl rfl rfl)⟩, ⟨rfl, leN_entN⟩, ⟨rfl, leN_entN⟩, ⟨rfl, leN_entN⟩, ⟨rfl, leN_entN⟩, ⟨rfl, leN_entN⟩, ⟨rfl, leN_entN⟩, ⟨rfl, leN_entN⟩, ⟨rfl, leN_entN⟩, ⟨rfl, leN_varA (lt3c ⟨leC_int rfl, leC_int rfl, leC_int rfl⟩)⟩, trivial⟩⟩
 rintro ⟨⟨p, a⟩, hp, hW⟩
 dsimp only at hp hW ⊢
 unfold slB
 by_cases hpl : p < S.length
 . have w4 : IntKind.i64.wrap ((p : Int) + 1) = ((p + 1 : Nat) : Int) := (IntWalk.i64_in _ (by omega)).trans (by omega)
   have hst : pickF (M.getD 7 default).id (S.drop (p + 1)) (if (S.getD p default).id = (M.getD 7 default).id then S.getD p default else a) = W := by rw [<- hW, drop_at hpl]; rfl
   have n1 : (S.getD p default).id = (M.getD 7 default).id -> pickF (M.getD 7 default).id (S.drop (p + 1)) (S.getD p default) = W := fun h => by rw [if_pos h] at hst; exact hst
   have n2 : ¬ (S.getD p default).id = (M.getD 7 default).id -> pickF (M.getD 7 default).id (S.drop (p + 1)) a = W := fun h => by rw [if_neg h] at hst; exact hst
   clear hst
   repeat' (first | (simp only [w4]) | (apply And.intro <;> intro hc <;> (first | exact Bool.noConfusion hc | (exfalso; first | exact absurd rfl hc | omega) | (simp only [zb0, ne_eq, not_true_eq_false] at hc <;> first | exact absurd rfl hc | (exfalso; first | exact absurd rfl hc | omega) | skip) | skip)) | (refine And.intro zp1 ?_) | (apply And.intro) | (intro s hs; skip) | (refine Exists.intro _ (And.intro ⟨rfl, rfl, rfl⟩ ?_)))
   . conv => whnf
     exact ⟨⟨(p + 1, _), hpl, n1 hc⟩, [], by dsimp only; omega, rfl, ⟨leF_c (leC_cl (cl_slBN L)), leF_int rfl, leF_cl (cl_slB eSm S), leF_int rfl, leF_c (leC_os rfl rfl), leF_int rfl, leF_int rfl, leF_int rfl, leF_ptr rfl, leF_cl (cl_slB eSm S), leF_int rfl, leF_int w4, trivial⟩, ⟨⟨rfl, leN_entP (by omega) (lt8 rfl rfl rfl rfl rfl rfl rfl rfl)⟩, ⟨rfl, leN_entN⟩, ⟨rfl, leN_entN⟩, ⟨rfl, leN_entN⟩, ⟨rfl, leN_entN⟩, ⟨rfl, leN_entN⟩, ⟨rfl, leN_entN⟩, ⟨rfl, leN_entN⟩, ⟨rfl, leN_entN⟩, ⟨rfl, leN_varA (lt3c ⟨leC_int rfl, leC_int rfl, leC_int rfl⟩)⟩, trivial⟩⟩
   . conv => whnf
     exact ⟨⟨(p + 1, a), hpl, n2 hc⟩, [], by dsimp only; omega, rfl, ⟨leF_c (leC_cl (cl_slBN L)), leF_int rfl, leF_cl (cl_slB eSm S), leF_int rfl, leF_c (leC_os rfl rfl), leF_int rfl, leF_int rfl, leF_int rfl, leF_ptr rfl, leF_cl (cl_slB eSm S), leF_int rfl, leF_int w4, trivial⟩, ⟨⟨rfl, leN_entP (by omega) (lt8 rfl rfl rfl rfl rfl rfl rfl rfl)⟩, ⟨rfl, leN_entN⟩, ⟨rfl, leN_entN⟩, ⟨rfl, leN_entN⟩, ⟨rfl, leN_entN⟩, ⟨rfl, leN_entN⟩, ⟨rfl, leN_entN⟩, ⟨rfl, leN_entN⟩, ⟨rfl, leN_entN⟩, ⟨rfl, leN_varA fun j hj => (Elem.flat _ _ _).le⟩, trivial⟩⟩
 . obtain rfl : a = W := by
    rw [List.drop_of_length_le (by omega)] at hW; exact hW
   clear hW
   have hWm : 0 <= a.mn /\ a.mn <= 1073741824 := by rw [<- eW]; exact pick_ok (fun x hx => (hSm x hx).2) ⟨Int.le_refl _, by decide⟩
   repeat' (first | (apply And.intro <;> intro hc <;> (first | exact Bool.noConfusion hc | (exfalso; first | exact absurd rfl hc | omega) | (simp only [zb0, ne_eq, not_true_eq_false] at hc <;> first | exact absurd rfl hc | (exfalso; first | exact absurd rfl hc | omega) | skip) | skip)) | (refine And.intro zp1 ?_) | (apply And.intro) | (intro s hs; skip) | (refine Exists.intro _ (And.intro ⟨rfl, rfl, rfl⟩ ?_)))
   conv => whnf
   refine loop_intro (mono_of LMq_ok) (fun s : MapI (cmpH a now draw) (M.getD 7 default).held => (⟨[(0, one (slBN neS L)), (1, one (.int .i64 now)), (2, one (slB eSm S)), (3, one (.int .u32 draw)), (11, one (.os 1 0 M.length)), (35, one (.int .i64 (L.length : Int))), (36, one (.int .i64 ((7 : Nat) : Int))), (12, one (.int .i64 ((7 : Nat) : Int))), (13, one (.ptr 10 0 0 false)), (60, one (.int .i64 ((M.getD 7 default).held.length : Int))), (61, one (.int .i64 (s.i : Int)))], [(1, some (entP 2 M.length M)), (2, some (entH (M.getD 0 default).held)), (3, some (entH (M.getD 1 default).held)), (4, some (entH (M.getD 2 default).held)), (5, some (entH (M.getD 3 default).held)), (6, some (entH (M.getD 4 default).held)), (7, some (entH (M.getD 5 default).held)), (8, some (entH (M.getD 6 default).held)), (9, some (entH s.M)), (10, some ⟨60, 1, 3, true, fun _ => eSm.cell a⟩)], 11⟩ : Hd)) (fun s => (M.getD 7 default).held.length - s.i) (fun _ => rfl) ?_ (MapI.start _ _) [] ⟨rfl, ⟨leF_c (leC_cl (cl_slBN L)), leF_int rfl, leF_cl (cl_slB eSm S), leF_int rfl, leF_c (leC_os rfl rfl), leF_int rfl, leF_int rfl, leF_int rfl, leF_ptr rfl, leF_int rfl, leF_int rfl, trivial⟩, ⟨⟨rfl, leN_entP (by omega) (lt8 rfl rfl rfl rfl rfl rfl rfl rfl)⟩, ⟨rfl, leN_entN⟩, ⟨rfl, leN_entN⟩, ⟨rfl, leN_entN⟩, ⟨rfl, leN_entN⟩, ⟨rfl, leN_entN⟩, ⟨rfl, leN_entN⟩, ⟨rfl, leN_entN⟩, ⟨rfl, leN_entN⟩, ⟨rfl, leN_varA fun j hj => (Elem.flat _ _ _).le⟩, trivial⟩⟩
   intro s0
   by_cases hkn : s0.i < (M.getD 7 default).held.length
   . have w4 : IntKind.i64.wrap ((s0.i : Int) + 1) = ((s0.i + 1 : Nat) : Int) := (IntWalk.i64_in _ (by omega)).trans (by omega)
     have z0 : 0 + (s0.i : Int).toNat = s0.i := Nat.zero_add s0.i
     have eh := s0.h2 s0.i (Nat.le_refl _)
     have hl := s0.n
     have bk : Nat.beq s0.i s0.i = true := Nat.beq_refl _
     have hx := hels_ok hX (getD_in hkn)
     have hx1 := (vh_mem hX.h _ (getD_in hkn)).1
     rw [<- eh] at hx hx1
     have hxb := hx.b
     obtain ⟨B, eB2⟩ : ∃ B, hasB a (s0.M.getD s0.i default).num = B := ⟨_, rfl⟩
     obtain ⟨T, eT⟩ : ∃ T, resetT (s0.M.getD s0.i default).tm now draw = T := ⟨_, rfl⟩
     repeat' (first | (simp only [z0, w4, bk, Bool.cond_true]) | (apply And.intro <;> intro hc <;> (first | exact Bool.noConfusion hc | (exfalso; first | exact absurd rfl hc | omega) | (simp only [zb0, ne_eq, not_true_eq_false] at hc <;> first | exact absurd rfl hc | (exfalso; first | exact absurd rfl hc | omega) | skip) | skip)) | (refine And.intro zp1 ?_) | (apply And.intro) | (intro s hs; (first | (have q : B = s := eB2.symm.trans hs.symm; clear hs; subst q) | (have q : T = s := eT.symm.trans hs.symm; clear hs; subst q))) | (refine Exists.intro _ (And.intro ⟨rfl, rfl, rfl⟩ ?_)))
     . exact hc
     . conv => whnf
       refine ⟨s0.next hkn (s0.M.set s0.i { s0.M.getD s0.i default with tm := T.1 }) (by rw [<- eh, cmp_yes (by assumption) (eB2.trans (by assumption)) eT]), [], by dsimp only [MapI.next]; omega, rfl, ⟨leF_c (leC_cl (cl_slBN L)), leF_int rfl, leF_cl (cl_slB eSm S), leF_int rfl, leF_c (leC_os rfl rfl), leF_int rfl, leF_int rfl, leF_int rfl, leF_ptr rfl, leF_int rfl, leF_int w4, trivial⟩, ⟨⟨rfl, leN_entP (by omega) (lt8 rfl rfl rfl rfl rfl rfl rfl rfl)⟩, ⟨rfl, leN_entN⟩, ⟨rfl, leN_entN⟩, ⟨rfl, leN_entN⟩, ⟨rfl, leN_entN⟩, ⟨rfl, leN_entN⟩, ⟨rfl, leN_entN⟩, ⟨rfl, leN_entN⟩, ⟨rfl, leN_oneH ?_⟩, ⟨rfl, leN_varA fun j hj => (Elem.flat _ _ _).le⟩, trivial⟩⟩
       exact hel_set (by rw [hl]; exact hkn) (lt11c ⟨leC_int rfl, (neH.sh _ 1 (by decide)).le, leC_int rfl, leC_int rfl, leC_int rfl, leC_int rfl, leC_int rfl, leC_int rfl, leC_int rfl, leC_bool rfl, leC_int rfl⟩)
     . conv => whnf
       exact ⟨s0.next hkn s0.M (by rw [<- eh, cmp_no2 (eB2.trans (by assumption))]; exact gset_self (by rw [hl]; exact hkn)), [], by dsimp only [MapI.next]; omega, rfl, ⟨leF_c (leC_cl (cl_slBN L)), leF_int rfl, leF_cl (cl_slB eSm S), leF_int rfl, leF_c (leC_os rfl rfl), leF_int rfl, leF_int rfl, leF_int rfl, leF_ptr rfl, leF_int rfl, leF_int w4, trivial⟩, ⟨⟨rfl, leN_entP (by omega) (lt8 rfl rfl rfl rfl rfl rfl rfl rfl)⟩, ⟨rfl, leN_entN⟩, ⟨rfl, leN_entN⟩, ⟨rfl, leN_entN⟩, ⟨rfl, leN_entN⟩, ⟨rfl, leN_entN⟩, ⟨rfl, leN_entN⟩, ⟨rfl, leN_entN⟩, ⟨rfl, leN_entN⟩, ⟨rfl, leN_varA fun j hj => (Elem.flat _ _ _).le⟩, trivial⟩⟩
     . conv => whnf
       exact ⟨s0.next hkn s0.M (by rw [<- eh, cmp_no1 (by assumption)]; exact gset_self (by rw [hl]; exact hkn)), [], by dsimp only [MapI.next]; omega, rfl, ⟨leF_c (leC_cl (cl_slBN L)), leF_int rfl, leF_cl (cl_slB eSm S), leF_int rfl, leF_c (leC_os rfl rfl), leF_int rfl, leF_int rfl, leF_int rfl, leF_ptr rfl, leF_int rfl, leF_int w4, trivial⟩, ⟨⟨rfl, leN_entP (by omega) (lt8 rfl rfl rfl rfl rfl rfl rfl rfl)⟩, ⟨rfl, leN_entN⟩, ⟨rfl, leN_entN⟩, ⟨rfl, leN_entN⟩, ⟨rfl, leN_entN⟩, ⟨rfl, leN_entN⟩, ⟨rfl, leN_entN⟩, ⟨rfl, leN_entN⟩, ⟨rfl, leN_entN⟩, ⟨rfl, leN_varA fun j hj => (Elem.flat _ _ _).le⟩, trivial⟩⟩
   . have l1 := s0.last hkn
     have hkk := s0.hi
     have hl := s0.n
     have w6 : IntKind.i64.wrap ((7 : Int) + 1) = ((7 + 1 : Nat) : Int) := rfl
     repeat' (first | (apply And.intro <;> intro hc <;> (first | exact Bool.noConfusion hc | (exfalso; first | exact absurd rfl hc | omega) | (simp only [zb0, ne_eq, not_true_eq_false] at hc <;> first | exact absurd rfl hc | (exfalso; first | exact absurd rfl hc | omega) | skip) | skip)) | (refine And.intro zp1 ?_) | (apply And.intro) | (intro s hs; skip) | (refine Exists.intro _ (And.intro ⟨rfl, rfl, rfl⟩ ?_)))
     conv => whnf
     refine ⟨s', [], by show L.length - s'.i < _; rw [f4]; omega, rfl, ⟨leF_c (leC_cl (cl_slBN L)), leF_int rfl, leF_cl (cl_slB eSm S), leF_int rfl, leF_c (leC_os rfl (by rw [f1, List.length_set])), leF_int rfl, leF_int (by rw [f4]; rfl), trivial⟩, ⟨⟨rfl, ⟨rfl, by show _ = s'.M.length; rw [f1, List.length_set]; rfl, rfl, rfl, fun p hp j hj => ?_⟩⟩, ⟨rfl, leN_eqN (by rw [f1]; exact congrArg Sed.held (set_ne (by decide)).symm)⟩, ⟨rfl, leN_eqN (by rw [f1]; exact congrArg Sed.held (set_ne (by decide)).symm)⟩, ⟨rfl, leN_eqN (by rw [f1]; exact congrArg Sed.held (set_ne (by decide)).symm)⟩, ⟨rfl, leN_eqN (by rw [f1]; exact congrArg Sed.held (set_ne (by decide)).symm)⟩, ⟨rfl, leN_eqN (by rw [f1]; exact congrArg Sed.held (set_ne (by decide)).symm)⟩, ⟨rfl, leN_eqN (by rw [f1]; exact congrArg Sed.held (set_ne (by decide)).symm)⟩, ⟨rfl, leN_eqN (by rw [f1]; exact congrArg Sed.held (set_ne (by decide)).symm)⟩, ⟨rfl, leN_eqN (by rw [f1, set_at hiM]; exact l1.trans (by rw [<- eW]; rfl))⟩, trivial⟩⟩
     have hp : p < M.length := hp
     have hj : j < 3 := hj
     show LeC _ (rowP 2 M p j) (rowP 2 s'.M p j)
     rw [f1]
     rcases (show p = 0 \/ p = 1 \/ p = 2 \/ p = 3 \/ p = 4 \/ p = 5 \/ p = 6 \/ p = 7 by omega) with rfl | rfl | rfl | rfl | rfl | rfl | rfl | rfl
     all_goals first
      | exact rowP_set_ne hj (by decide) rfl rfl
      | skip
     refine rowP_set_at hiM ?_
     rcases j with _ | _ | _ | j
     . exact leC_int rfl
     . exact leC_int rfl
     . exact leC_os rfl (by show _ = (List.map _ _).length; rw [List.length_map])
     . omega
theorem cp_all (L : List Sed) (S : List Smy) (now draw : Int) (hv : validL L = true) (hS : validSms S = true) (hd : drawOk draw) (ht : 0 <= now /\ now <= 1099511627776) (s : MapI (cmpS S now draw) L) (hil : s.i < L.length) (K : Kt) :
 exec T (mkQ LMq) 1 Try.f29.ntmps 0 (loopIn (dropC 4 (Try.f29.body.getD Code.ret))) (SC L S now draw s).fr (SC L S now draw s).H (SC L S now draw s).nx (seqK (fun fr H _ => Goes (SC L S now draw) (fun s => L.length - s.i) 0 (L.length - s.i) fr H) K) := by
 have h8 := vl_len hv
 rcases (show s.i = 0 \/ s.i = 1 \/ s.i = 2 \/ s.i = 3 \/ s.i = 4 \/ s.i = 5 \/ s.i = 6 \/ s.i = 7 by omega) with h | h | h | h | h | h | h | h
 . exact cp_0 L S now draw hv hS hd ht s h hil K
 . exact cp_1 L S now draw hv hS hd ht s h hil K
 . exact cp_2 L S now draw hv hS hd ht s h hil K
 . exact cp_3 L S now draw hv hS hd ht s h hil K
 . exact cp_4 L S now draw hv hS hd ht s h hil K
 . exact cp_5 L S now draw hv hS hd ht s h hil K
 . exact cp_6 L S now draw hv hS hd ht s h hil K
 . exact cp_7 L S now draw hv hS hd ht s h hil K
theorem rd_vsms {s V : Bool} {M L : List Smy} (hs : s = validSms M) (h : M = L) (hV : validSms L = V) : V = s := by rw [hs, h, hV]
def SD (L : List Sed) (S : List Smy) (M : List Sed) (_ : Unit) : Hd := ⟨[(0, one (slBN neS L)), (2, one (slB eSm S)), (11, one (.os 1 0 M.length))], (1, some (entP 2 M.length M)) :: hepP 2 M, 10⟩
theorem rd_lk {s B : Bool} {M L : List Sed} {x y : Smy} (hs : s = lacksF M x) (h : M = L) (hx : x = y) (hB : lacksF L y = B) : B = s := by rw [hs, h, hx, hB]
theorem any_drop {L : List Sed} {S : List Smy} {p : Nat} {b W : Bool} (h : p < S.length) (hW : (b || (S.drop p).any (lacksF L)) = W) : ((b || lacksF L (S.getD p default)) || (S.drop (p + 1)).any (lacksF L)) = W := by
 rw [<- hW, drop_at h, List.any_cons, Bool.or_assoc]
theorem mcmp3 (L : List Sed) (S : List Smy) (M : List Sed) (hL : LHn L) (hS : validSms S = true) (h8 : M.length <= 8) (R : List Sed × Bool × Int) (hR : R = (M, S.any (lacksF L), 0)) :
 Sem Try.prog Try.f29.ntmps 0 (dropC 5 (Try.f29.body.getD Code.ret)) (SD L S M ()).fr (SD L S M ()).H (SD L S M ()).nx (endH T Try.f29.results.toList fun x H _ => FinN (some R.1.length) (encAc R) (entN neS 78 R.1) x H) := by
 obtain ⟨hS8, hSm⟩ := vys hS
 refine sem_exec (wd := 1) (Q := mkQ LMq) (by decide) tysOk (q_of LMq_ok) mixed ?_
 unfold SD
 repeat' (first | (apply And.intro <;> intro hc <;> (first | exact Bool.noConfusion hc | (exfalso; first | exact absurd rfl hc | omega) | (simp only [zb0, ne_eq, not_true_eq_false] at hc <;> first | exact absurd rfl hc | (exfalso; first | exact absurd rfl hc | omega) | skip) | skip)) | (refine And.intro zp1 ?_) | (apply And.intro) | (intro s hs; skip) | (refine Exists.intro _ (And.intro ⟨rfl, rfl, rfl⟩ ?_)))
 conv => whnf
 obtain ⟨W, eW⟩ : ∃ W, S.any (lacksF L) = W := ⟨_, rfl⟩
 rw [eW] at hR
 refine loop_intro (mono_of LMq_ok) (fun s : {p : Nat × Bool // p.1 <= S.length /\ (p.2 || (S.drop p.1).any (lacksF L)) = W} => (⟨[(0, one (slBN neS L)), (11, one (.os 1 0 M.length)), (18, one (.bool s.1.2)), (102, one (slB eSm S)), (103, one (.int .i64 (S.length : Int))), (104, one (.int .i64 (s.1.1 : Int)))], (1, some (entP 2 M.length M)) :: hepP 2 M, 10⟩ : Hd)) (fun s => S.length - s.1.1) (fun _ => rfl) ?_ ⟨(0, false), Nat.zero_le _, eW⟩ [] ⟨rfl, ⟨leF_c (leC_cl (cl_slBN L)), leF_c (leC_os rfl rfl), leF_bool rfl, leF_cl (cl_slB eSm S), leF_int rfl, leF_int rfl, trivial⟩, ⟨⟨rfl, leN_entP (by omega) (lt8 rfl rfl rfl rfl rfl rfl rfl rfl)⟩, ⟨rfl, leN_entN⟩, ⟨rfl, leN_entN⟩, ⟨rfl, leN_entN⟩, ⟨rfl, leN_entN⟩, ⟨rfl, leN_entN⟩, ⟨rfl, leN_entN⟩, ⟨rfl, leN_entN⟩, ⟨rfl, leN_entN⟩, trivial⟩⟩
 rintro ⟨⟨p, b⟩, hp, hW⟩
 dsimp only at hp hW ⊢
 unfold slB
 by_cases hpl : p < S.length
 . have w4 : IntKind.i64.wrap ((p : Int) + 1) = ((p + 1 : Nat) : Int) := (IntWalk.i64_in _ (by omega)).trans (by omega)
   have hst := any_drop hpl hW
   have hm := (hSm _ (getD_in hpl)).2
   obtain ⟨B, hB⟩ : ∃ B, lacksF L (S.getD p default) = B := ⟨_, rfl⟩
   rw [hB] at hst
   repeat' (first | (simp only [w4]) | (apply And.intro <;> intro hc <;> (first | exact Bool.noConfusion hc | (exfalso; first | exact absurd rfl hc | omega) | (simp only [zb0, ne_eq, not_true_eq_false] at hc <;> first | exact absurd rfl hc | (exfalso; first | exact absurd rfl hc | omega) | skip) | skip)) | (refine And.intro zp1 ?_) | (apply And.intro) | (intro s hs; (have q := rd_lk hs (toN_row neS_rd _) rfl hB; clear hs; subst q)) | (refine Exists.intro _ (And.intro ⟨rfl, rfl, rfl⟩ ?_)))
   . exact fun _ _ => ⟨rfl, okHs_sl _⟩
   . exact ⟨by rw [toN_row neS_rd]; exact hL.n, by rw [toN_row neS_rd]; exact hL.h, hm⟩
   . have hBt : B = true := by assumption
     rw [hBt, Bool.or_true] at hst
     conv => whnf
     exact ⟨⟨(p + 1, true), hpl, hst⟩, [], by dsimp only; omega, rfl, ⟨leF_c (leC_cl (cl_slBN L)), leF_c (leC_os rfl rfl), leF_bool rfl, leF_cl (cl_slB eSm S), leF_int rfl, leF_int w4, trivial⟩, ⟨⟨rfl, leN_entP (by omega) (lt8 rfl rfl rfl rfl rfl rfl rfl rfl)⟩, ⟨rfl, leN_entN⟩, ⟨rfl, leN_entN⟩, ⟨rfl, leN_entN⟩, ⟨rfl, leN_entN⟩, ⟨rfl, leN_entN⟩, ⟨rfl, leN_entN⟩, ⟨rfl, leN_entN⟩, ⟨rfl, leN_entN⟩, trivial⟩⟩
   . have hBf : B = false := by assumption
     rw [hBf, Bool.or_false] at hst
     conv => whnf
     exact ⟨⟨(p + 1, b), hpl, hst⟩, [], by dsimp only; omega, rfl, ⟨leF_c (leC_cl (cl_slBN L)), leF_c (leC_os rfl rfl), leF_bool rfl, leF_cl (cl_slB eSm S), leF_int rfl, leF_int w4, trivial⟩, ⟨⟨rfl, leN_entP (by omega) (lt8 rfl rfl rfl rfl rfl rfl rfl rfl)⟩, ⟨rfl, leN_entN⟩, ⟨rfl, leN_entN⟩, ⟨rfl, leN_entN⟩, ⟨rfl, leN_entN⟩, ⟨rfl, leN_entN⟩, ⟨rfl, leN_entN⟩, ⟨rfl, leN_entN⟩, ⟨rfl, leN_entN⟩, trivial⟩⟩
 . have e : b = W := by rw [<- hW, List.drop_of_length_le (by omega)]; simp
   subst e
   repeat' (first | (apply And.intro <;> intro hc <;> (first | exact Bool.noConfusion hc | (exfalso; first | exact absurd rfl hc | omega) | (simp only [zb0, ne_eq, not_true_eq_false] at hc <;> first | exact absurd rfl hc | (exfalso; first | exact absurd rfl hc | omega) | skip) | skip)) | (refine And.intro zp1 ?_) | (apply And.intro) | (intro s hs; skip) | (refine Exists.intro _ (And.intro ⟨rfl, rfl, rfl⟩ ?_)))
   conv => whnf
   subst hR
   refine ⟨some 1, leF_tup ⟨leC_os rfl rfl, leC_bool rfl, leC_int rfl, trivial⟩, ⟨rfl, rfl, rfl, rfl, fun p hp j hj => ?_⟩⟩
   have hp : p < M.length := hp
   have hj : j < 3 := hj
   show LeC _ (rowP 2 M p j) (rowN neS M p j)
   rcases (show p = 0 \/ p = 1 \/ p = 2 \/ p = 3 \/ p = 4 \/ p = 5 \/ p = 6 \/ p = 7 by omega) with rfl | rfl | rfl | rfl | rfl | rfl | rfl | rfl
   all_goals exact give_rowP hj rfl rfl
theorem mcmp1 (L : List Sed) (now : Int) (S : List Smy) (draw : Int) (hL : LHn L) (hSn : S.length <= 9223372036854775807) (hdr : drawOk draw) : NewOk Try.prog 29 [(cNS neS neS_sz).enc L, (cI .i64).enc now, (cSl eSm eSm_sz).enc S, (cI .u32).enc draw] (some (compareF L now S draw).1.length) (encAc (compareF L now S draw)) (entN neS 78 (compareF L now S draw).1) := by
 obtain ⟨R, hR⟩ : ∃ R, compareF L now S draw = R := ⟨_, rfl⟩
 rw [hR]
 obtain ⟨V, hV⟩ : ∃ V, validL L = V := ⟨_, rfl⟩
 obtain ⟨U, hU⟩ : ∃ V, validSms S = V := ⟨_, rfl⟩
 obtain ⟨B, hB⟩ : ∃ B, isTimeT now = B := ⟨_, rfl⟩
 refine new_introS tysOk Try.func29 rfl _ (by show 4 <= _; decide) (fun i _ j hj => rowN_nf _ hj) ?_
 refine sem_step (wd := 1) (Q := mkQ LMq) (by decide) tysOk (q_of LMq_ok) mixed ?_
 refine sem_step (wd := 1) (Q := mkQ LMq) (by decide) tysOk (q_of LMq_ok) mixed ?_
 repeat' (first | (apply And.intro <;> intro hc <;> (first | exact Bool.noConfusion hc | (exfalso; first | exact absurd rfl hc) | (simp only [zb0, ne_eq, not_true_eq_false] at hc <;> first | exact absurd rfl hc | (exfalso; first | exact absurd rfl hc) | skip) | skip)) | (refine And.intro zp1 ?_) | (apply And.intro) | (intro s hs; (first | (have q : V = s := rd_validL hs (toN_row neS_rd _) hV; clear hs; subst q) | (have q : U = s := rd_vsms hs (toL_row eSm_rd _) hU; clear hs; subst q))) | (refine Exists.intro _ (And.intro ⟨rfl, rfl, rfl⟩ ?_)))
 . exact fun _ _ => ⟨rfl, okHs_sl _⟩
 . exact Eq.mpr (congrArg LHn (toN_row neS_rd _)) hL
 . exact fin_err (by rw [<- hR]; unfold compareF; rw [if_pos (.inl (hV.trans (by assumption)))])
 . exact Eq.mpr (congrArg (fun z : List Smy => z.length <= 9223372036854775807) (toL_row eSm_rd _)) hSn
 . exact fin_err (by rw [<- hR]; unfold compareF; rw [if_pos (.inr (hU.trans (by assumption)))])
 have hVt : validL L = true := hV.trans (by assumption)
 have hUt : validSms S = true := hU.trans (by assumption)
 refine sem_step (wd := 1) (Q := mkQ LMq) (by decide) tysOk (q_of LMq_ok) mixed ?_
 repeat' (first | (apply And.intro <;> intro hc <;> (first | exact Bool.noConfusion hc | (exfalso; first | exact absurd rfl hc) | (simp only [zb0, ne_eq, not_true_eq_false] at hc <;> first | exact absurd rfl hc | (exfalso; first | exact absurd rfl hc) | skip) | skip)) | (refine And.intro zp1 ?_) | (apply And.intro) | (intro s hs; (have q : B = s := hB.symm.trans hs.symm; clear hs; subst q)) | (refine Exists.intro _ (And.intro ⟨rfl, rfl, rfl⟩ ?_)))
 . exact fin_err (by rw [<- hR]; unfold compareF; rw [if_neg (by rw [hVt, hUt]; simp), if_pos (hB.trans (by assumption))])
 have hBt : isTimeT now = true := hB.trans (by assumption)
 refine sem_step (wd := 9) (Q := mkQ LMq) (by decide) tysOk (q_of LMq_ok) mixed ?_
 repeat' (first | (apply And.intro <;> intro hc <;> (first | exact Bool.noConfusion hc | (exfalso; first | exact absurd rfl hc) | (simp only [zb0, ne_eq, not_true_eq_false] at hc <;> first | exact absurd rfl hc | (exfalso; first | exact absurd rfl hc) | skip) | skip)) | (refine And.intro zp1 ?_) | (apply And.intro) | (intro s hs; (have q : L = s := (hs.trans (toN_row neS_rd _)).symm; clear hs; subst q)) | (refine Exists.intro _ (And.intro ⟨rfl, rfl, rfl⟩ ?_)))
 . exact fun _ _ => ⟨rfl, okHs_sl _⟩
 . exact Eq.mpr (congrArg Cl8 (toN_row neS_rd _)) (vl_c8 hVt)
 change Sem _ _ _ _ _ _ _ _
 refine sem_cut (wd := 1) (Q := mkQ LMq) (by decide) tysOk (q_of LMq_ok) (mono_of LMq_ok) mixed (SD L S (L.map (cmpS S now draw))) (by intro _; rfl) ?_ ?_
 . repeat' (first | (apply And.intro <;> intro hc <;> (first | exact Bool.noConfusion hc | (exfalso; first | exact absurd rfl hc) | (simp only [zb0, ne_eq, not_true_eq_false] at hc <;> first | exact absurd rfl hc | (exfalso; first | exact absurd rfl hc) | skip) | skip)) | (refine And.intro zp1 ?_) | (apply And.intro) | (intro s hs; skip) | (refine Exists.intro _ (And.intro ⟨rfl, rfl, rfl⟩ ?_)))
   conv => whnf
   refine loop_intro (mono_of LMq_ok) (SC L S now draw) (fun s => L.length - s.i) (fun _ => rfl) ?_ (MapI.start _ _) [(1, some 23), (2, some 24), (3, some 25), (4, some 26), (5, some 27), (6, some 28), (7, some 29), (8, some 30), (9, some 31)] ⟨rfl, ⟨leF_c (leC_cl (cl_slBN L)), leF_int rfl, leF_cl (cl_slB eSm S), leF_int rfl, leF_c (leC_os rfl rfl), leF_int rfl, leF_int rfl, trivial⟩, ⟨⟨rfl, ⟨rfl, rfl, rfl, rfl, fun p hp j hj => rowP_le hj (lt8 (P := fun p => Wc.src _ (2 + p) = some (24 + p)) rfl rfl rfl rfl rfl rfl rfl rfl p (Nat.lt_of_lt_of_le hp (vl_len hVt)))⟩⟩, ⟨rfl, leN_entN⟩, ⟨rfl, leN_entN⟩, ⟨rfl, leN_entN⟩, ⟨rfl, leN_entN⟩, ⟨rfl, leN_entN⟩, ⟨rfl, leN_entN⟩, ⟨rfl, leN_entN⟩, ⟨rfl, leN_entN⟩, trivial⟩⟩
   intro s
   by_cases hil : s.i < L.length
   . exact cp_all L S now draw hVt hUt hdr (isTimeT_iff.1 hBt) s hil _
   . have eM := s.last hil
     have hML : s.M.length = L.length := s.n
     unfold SC
     repeat' (first | (apply And.intro <;> intro hc <;> (first | exact Bool.noConfusion hc | (exfalso; first | exact absurd rfl hc | omega) | (simp only [zb0, ne_eq, not_true_eq_false] at hc <;> first | exact absurd rfl hc | (exfalso; first | exact absurd rfl hc | omega) | skip) | skip)) | (refine And.intro zp1 ?_) | (apply And.intro) | (intro s hs; skip) | (refine Exists.intro _ (And.intro ⟨rfl, rfl, rfl⟩ ?_)))
     conv => whnf
     rw [<- eM]
     exact ⟨(), [], rfl, ⟨leF_c (leC_cl (cl_slBN L)), leF_cl (cl_slB eSm S), leF_c (leC_os rfl rfl), trivial⟩, ⟨⟨rfl, leN_entP (by have := vl_len hVt; omega) (lt8 rfl rfl rfl rfl rfl rfl rfl rfl)⟩, ⟨rfl, leN_entN⟩, ⟨rfl, leN_entN⟩, ⟨rfl, leN_entN⟩, ⟨rfl, leN_entN⟩, ⟨rfl, leN_entN⟩, ⟨rfl, leN_entN⟩, ⟨rfl, leN_entN⟩, ⟨rfl, leN_entN⟩, trivial⟩⟩
 . intro _
   exact mcmp3 L S (L.map (cmpS S now draw)) hL hUt (by rw [List.length_map]; exact vl_len hVt) R (by rw [<- hR]; exact compare_eq hVt hUt hBt)
structure CmpP (L : List Sed) (S : List Smy) (d : Int) : Prop where
 h : LHn L
 n : S.length <= 9223372036854775807
 d : drawOk d
abbrev compareE : Entry := newE (AC.cons (cNS neS neS_sz) (AC.cons (cI .i64) (AC.cons (cSl eSm eSm_sz) (AC.cons (cI .u32) AC.nil)))) (fun a => CmpP a.1 a.2.2.1 a.2.2.2.1) (fun a => compareF a.1 a.2.1 a.2.2.1 a.2.2.2.1) (fun s => some s.1.length) encAc (fun s => entN neS 78 s.1)
theorem compareE_ok : EntOk Try.prog 29 compareE := newE_ok ⟨_, Try.func29, rfl, by kernel_rfl⟩ (fun s l h x hx => by
 injection h with h
 subst h
 rcases List.mem_cons.1 hx with rfl | hx
 . exact nfE_c nf_bool
 . rcases List.mem_cons.1 hx with rfl | hx
   . exact nfE_c nf_int
   . cases hx) fun a h => mcmp1 a.1 a.2.1 a.2.2.1 a.2.2.2.1 h.h h.n h.d
end Go.Proofs.Ytfaibcgakcmhcaa.AX
namespace Go.Proofs.Ytfaibcgakcmhcaa.AX
structure MsI (c : Cas) : Prop where
 i : c.id = 9
 n : 100 <= c.num /\ c.num < 150
 d : c.data.length <= 4
def nodeL (c : Cas) (tm : Trk) (til : Int) : List Sed := [⟨9, c.num, [⟨c.num, c.data, tm, til⟩]⟩]
def frT (r : Int) : Trk := ⟨2, 3, 2, r, 2, r + 1, 0, false⟩
def HasI (c : Cas) (l : List Sed) : Prop := ∃ tm til, l = nodeL c tm til /\ validT tm = true /\ 20 <= til /\ til <= 1099511627776
def FrI (c : Cas) (r : Int) (l : List Sed) : Prop := ∃ til, l = nodeL c (frT r) til /\ 20 <= til /\ til <= 1099511627776
theorem frT_ok {r : Int} (h : 0 <= r /\ r <= 17) : validT (frT r) = true :=
 validT_mk rfl (isTimeT_iff.2 (by show 0 <= r /\ r <= 1099511627776; omega)) (by show (0 : Int) <= 0 /\ (0 : Int) <= 1048576; omega) (fitsTo_iff.2 ⟨0, by show 0 < Int.toNat 3 + 1; omega, by show (2 : Int) = 2 * 2 ^ 0; simp⟩) (by show r + 2 / 2 <= r + 1 /\ r + 1 <= r + 2 - 1; omega)
theorem fr_has {c : Cas} {r : Int} {l : List Sed} (hr : 0 <= r /\ r <= 17) (h : FrI c r l) : HasI c l := by
 obtain ⟨til, e, h1, h2⟩ := h
 exact ⟨frT r, til, e, frT_ok hr, h1, h2⟩
theorem node_sd {c : Cas} {tm : Trk} {til : Int} (hc : MsI c) (ht : validT tm = true) (h1 : 20 <= til /\ til <= 1099511627776) : SdOk ⟨9, c.num, [⟨c.num, c.data, tm, til⟩]⟩ := by
 have hn := hc.n
 have hd := hc.d
 refine ⟨⟨by dsimp only; omega, by dsimp only; omega⟩, by show 1 <= 32; omega, vh_cons.2 ⟨by dsimp only; omega, ⟨by dsimp only; omega, by dsimp only; omega, by dsimp only; omega, ht, isTimeT_iff.2 (by dsimp only; omega)⟩, rfl⟩⟩
theorem node_ok {c : Cas} {tm : Trk} {til : Int} (hc : MsI c) (ht : validT tm = true) (h1 : 20 <= til /\ til <= 1099511627776) : validL (nodeL c tm til) = true := by
 unfold validL
 simp only [Bool.and_eq_true, decide_eq_true_eq]
 exact ⟨by show 1 <= 8; omega, vs_cons.2 ⟨by dsimp only; omega, sd_of (node_sd hc ht h1), rfl⟩⟩
theorem has_valid {c : Cas} {l : List Sed} (hc : MsI c) (h : HasI c l) : validL l = true := by
 obtain ⟨tm, til, rfl, h1, h2⟩ := h
 exact node_ok hc h1 h2
theorem cls_node {c : Cas} {tm : Trk} {til now : Int} (h : now < til) : (nodeL c tm til).map (clsS now) = nodeL c tm til := by
 show [clsS now ⟨9, c.num, [⟨c.num, c.data, tm, til⟩]⟩] = _
 have e : lastF now [⟨c.num, c.data, tm, til⟩] c.num = c.num := if_neg (by dsimp only; omega)
 unfold clsS
 dsimp only
 rw [e]
 unfold raiseS
 rw [if_pos (Int.le_refl _)]; rfl
theorem step_node {c : Cas} {tm : Trk} {til now draw : Int} (hc : MsI c) (ht : validT tm = true) (h1 : 20 <= til /\ til <= 1099511627776) (hn : 0 <= now /\ now <= 17) :
 mstepF (nodeL c tm til) now draw = ([⟨9, c.num, [(oneH 9 now draw ⟨c.num, c.data, tm, til⟩ 0).1]⟩], (oneH 9 now draw ⟨c.num, c.data, tm, til⟩ 0).2, 0) := by
 rw [mstep_eq (node_ok hc ht h1) (isTimeT_iff.2 (by omega)), cls_node (by omega)]
 have e : runL now draw (nodeL c tm til) 0 = ([⟨9, c.num, [(oneH 9 now draw ⟨c.num, c.data, tm, til⟩ 0).1]⟩], (oneH 9 now draw ⟨c.num, c.data, tm, til⟩ 0).2) := by
  show (({ (⟨9, c.num, [⟨c.num, c.data, tm, til⟩]⟩ : Sed) with held := (runH 9 now draw [⟨c.num, c.data, tm, til⟩] 0).1 } :: [], (runH 9 now draw [⟨c.num, c.data, tm, til⟩] 0).2 ++ []) : List Sed × List Cas) = _
  rw [runH_cons]
  show ([_], (_ ++ []) ++ []) = _
  rw [List.append_nil, List.append_nil]; rfl
 rw [e]
theorem cas_eta {c : Cas} (h : c.id = 9) : (⟨9, c.num, c.data⟩ : Cas) = c := by rw [<- h]
theorem ns_has {c : Cas} {l : List Sed} {now draw : Int} (hc : MsI c) (h : HasI c l) (hn : 0 <= now /\ now <= 17) : ∃ l' Z, mstepF l now draw = (l', Z, 0) /\ HasI c l' /\ (Z = [] \/ Z = [c]) := by
 obtain ⟨tm, til, rfl, h1, h2⟩ := h
 refine ⟨_, _, step_node hc h1 h2 hn, ?_, ?_⟩
 . unfold oneH
   split
   . rename_i hs
     exact ⟨_, til, rfl, step_valid h1 ⟨hn.1, by omega⟩ hs, h2⟩
   . exact ⟨tm, til, rfl, h1, h2⟩
 . unfold oneH
   split
   . dsimp only
     split
     . right; rw [cas_eta hc.i]
     . left; rfl
   . left; rfl
theorem step_fr {r draw : Int} (h : 0 <= r /\ r <= 16) : stepT (frT r) (r + 1) draw = ({ frT r with fired := true }, true, 0) := by
 unfold stepT
 rw [if_pos (frT_ok (by omega)), if_pos ⟨isTimeT_iff.2 (by omega), by show r <= r + 1; omega⟩, if_neg (by show ¬ r + 2 <= r + 1; omega)]
 have e : fireT (frT r) (r + 1) = ({ frT r with fired := true }, true) := by
  unfold fireT
  rw [if_pos ⟨rfl, by show r + 1 <= r + 1; omega⟩]
  rw [decide_eq_true (p := (frT r).red = 0 \/ (frT r).heard < (frT r).red) (.inr (by show (0 : Int) < 2; omega))]
 rw [e]
theorem ns_fr {c : Cas} {l : List Sed} {r draw : Int} (hc : MsI c) (hr : 0 <= r /\ r <= 16) (h : FrI c r l) : ∃ l', mstepF l (r + 1) draw = (l', [c], 0) /\ HasI c l' := by
 obtain ⟨til, rfl, h2⟩ := h
 have hs := step_node (now := r + 1) (draw := draw) hc (frT_ok (r := r) (by omega)) h2 (by omega)
 have e : oneH 9 (r + 1) draw ⟨c.num, c.data, frT r, til⟩ 0 = (⟨c.num, c.data, { frT r with fired := true }, til⟩, [c]) := by
  rw [one_yes (by show r <= r + 1; omega) (step_fr hr)]
  rw [if_pos rfl, cas_eta hc.i]
 rw [e] at hs
 refine ⟨_, hs, _, til, rfl, ?_, h2⟩
 exact validT_mk rfl (isTimeT_iff.2 (by show 0 <= r /\ r <= 1099511627776; omega)) (by show (0 : Int) <= 0 /\ (0 : Int) <= 1048576; omega) (fitsTo_iff.2 ⟨0, by show 0 < Int.toNat 3 + 1; omega, by show (2 : Int) = 2 * 2 ^ 0; simp⟩) (by show r + 2 / 2 <= r + 1 /\ r + 1 <= r + 2 - 1; omega)
theorem ns_fr0 {c : Cas} {l : List Sed} {draw : Int} (hc : MsI c) (h : FrI c 0 l) : mstepF l 0 draw = (l, [], 0) := by
 obtain ⟨til, rfl, h2⟩ := h
 have hs := step_node (now := 0) (draw := draw) hc (frT_ok (r := 0) (by omega)) h2 (by omega)
 have e : stepT (frT 0) 0 (IntKind.u32.wrap (draw + ((0 : Nat) : Int))) = (frT 0, false, 0) := by
  unfold stepT
  rw [if_pos (frT_ok (by omega)), if_pos ⟨isTimeT_iff.2 (by omega), by show (0 : Int) <= 0; omega⟩, if_neg (by show ¬ (0 : Int) + 2 <= 0; omega)]
  have e : fireT (frT 0) 0 = (frT 0, false) := if_neg (by rintro ⟨_, h⟩; have h : (0 : Int) + 1 <= 0 := h; omega)
  rw [e]
 rw [one_yes (by show (0 : Int) <= 0; omega) e] at hs
 exact hs
theorem ns_nil {now draw : Int} (hn : 0 <= now /\ now <= 17) : mstepF [] now draw = ([], [], 0) := by
 rw [mstep_eq rfl (isTimeT_iff.2 (by omega))]; rfl
theorem na_nil {c : Cas} {now draw : Int} (hc : MsI c) (hn : 0 <= now /\ now <= 17) : ∃ l', acceptF [] now c false draw = (l', true, 0) /\ FrI c now l' := by
 have hn2 := hc.n
 have hd := hc.d
 rw [accept_eq rfl (by rw [hc.i]; omega) (by omega) (isTimeT_iff.2 (by omega)) (by omega) (.inr (by show 0 < 8; omega))]
 have e1 : (fndS c.id [] 0) = (0, false) := rfl
 have e2 : accL c [] = [⟨c.id, c.num, []⟩] := rfl
 rw [e1, e2]
 have e3 : accS ⟨c.id, c.num, []⟩ now c false draw = (⟨c.id, c.num, [newH c now draw]⟩, true) := by
  unfold accS
  rw [if_neg (by dsimp only; omega), if_neg (by simp [plcH]), if_neg (by simp)]
  have e4 : raiseS ⟨c.id, c.num, []⟩ (c.num - 31) = ⟨c.id, c.num, []⟩ := if_pos (by dsimp only; omega)
  rw [e4]; rfl
 show ∃ l', ([(accS ⟨c.id, c.num, []⟩ now c false draw).1], (accS ⟨c.id, c.num, []⟩ now c false draw).2, (0 : Int)) = (l', true, 0) /\ _
 rw [e3]
 refine ⟨_, rfl, now + 20, ?_, by omega, by omega⟩
 have e5 : newT 2 3 2 now draw = (frT now, 0) := by
  unfold newT
  rw [if_pos ⟨isTimeT_iff.2 (by omega), rfl⟩]
  unfold beginT frT
  simp
 unfold newH nodeL
 rw [e5, if_neg (by omega), hc.i]
theorem na_has {c : Cas} {l : List Sed} {now draw : Int} (hc : MsI c) (h : HasI c l) (hn : 0 <= now /\ now <= 17) : ∃ l', acceptF l now c false draw = (l', false, 0) /\ HasI c l' := by
 have hv := has_valid hc h
 have hn2 := hc.n
 have hd := hc.d
 obtain ⟨tm, til, rfl, h1, h2⟩ := h
 have e1 : fndS c.id (nodeL c tm til) 0 = (0, true) := by
  rw [hc.i]; rfl
 rw [accept_eq hv (by rw [hc.i]; omega) (by omega) (isTimeT_iff.2 (by omega)) (by omega) (.inl (by rw [e1]))]
 have e2 : accL c (nodeL c tm til) = nodeL c tm til := if_pos (by rw [e1])
 rw [e1, e2]
 have e3 : plcH c.num [⟨c.num, c.data, tm, til⟩] 0 = (0, true) := by
  show (if c.num <= c.num then (0, decide (c.num = c.num)) else _) = _
  rw [if_pos (Int.le_refl _), decide_eq_true rfl]
 have e4 : accS ⟨9, c.num, [⟨c.num, c.data, tm, til⟩]⟩ now c false draw = (⟨9, c.num, [⟨c.num, c.data, hearT tm, til⟩]⟩, false) := by
  unfold accS
  rw [if_neg (by dsimp only; omega)]
  dsimp only
  rw [e3, if_pos rfl]; rfl
 show ∃ l', ([(accS ⟨9, c.num, [⟨c.num, c.data, tm, til⟩]⟩ now c false draw).1], (accS ⟨9, c.num, [⟨c.num, c.data, tm, til⟩]⟩ now c false draw).2, (0 : Int)) = (l', false, 0) /\ _
 rw [e4]
 exact ⟨_, rfl, hearT tm, til, rfl, hear_valid h1, h2⟩
theorem nc_nil {now draw : Int} {S : List Smy} (hS : validSms S = true) (hn : 0 <= now /\ now <= 17) : ∃ b, compareF [] now S draw = ([], b, 0) := by
 rw [compare_eq rfl hS (isTimeT_iff.2 (by omega))]
 exact ⟨_, rfl⟩
theorem nc_has {c : Cas} {l : List Sed} {now draw : Int} {S : List Smy} (hc : MsI c) (h : HasI c l) (hS : validSms S = true) (hn : 0 <= now /\ now <= 17) : ∃ l' b, compareF l now S draw = (l', b, 0) /\ HasI c l' := by
 rw [compare_eq (has_valid hc h) hS (isTimeT_iff.2 (by omega))]
 obtain ⟨tm, til, rfl, h1, h2⟩ := h
 refine ⟨_, _, rfl, ?_⟩
 show HasI c [⟨9, c.num, [cmpH _ now draw ⟨c.num, c.data, tm, til⟩]⟩]
 unfold cmpH
 split
 . exact ⟨_, til, rfl, rst_ok h1 ⟨hn.1, by omega⟩, h2⟩
 . exact ⟨tm, til, rfl, h1, h2⟩
theorem nc_fr {c : Cas} {l : List Sed} {r now draw : Int} {S : List Smy} (hc : MsI c) (hr : 0 <= r /\ r <= 17) (h : FrI c r l) (hS : validSms S = true) (hn : 0 <= now /\ now <= 17) : ∃ b, compareF l now S draw = (l, b, 0) := by
 rw [compare_eq (has_valid hc (fr_has hr h)) hS (isTimeT_iff.2 (by omega))]
 obtain ⟨til, rfl, h2⟩ := h
 have e : resetT (frT r) now draw = (frT r, 0) := by
  unfold resetT
  rw [if_pos (frT_ok hr), if_pos (isTimeT_iff.2 (by omega)), if_pos (show (frT r).len = (frT r).min from rfl)]
 have e2 : (nodeL c (frT r) til).map (cmpS S now draw) = nodeL c (frT r) til := by
  show [(⟨9, c.num, [cmpH _ now draw ⟨c.num, c.data, frT r, til⟩]⟩ : Sed)] = _
  unfold cmpH
  split
  . dsimp only
    rw [e]; rfl
  . rfl
 rw [e2]
 exact ⟨_, rfl⟩
def dstN (first i : Nat) : Nat := if i <= first then first - i else i - first
def pcN (first j : Nat) : Nat := if j < first then 2 * (j + 1) else 2 * (j - 1) + 1
structure P0 (c : Cas) (d r : Nat) (x : List Sed) : Prop where
 a : d + 1 < r -> HasI c x
 b : d + 1 = r -> FrI c (d : Int) x
 z : d = 0 -> r = 0 -> FrI c 0 x
 e : r <= d -> 0 < d -> x = []
structure P1 (c : Cas) (d r : Nat) (x : List Sed) (Z : List Cas) : Prop where
 a : d < r -> HasI c x
 s : Z = [] \/ Z = [c]
 b : d + 1 = r -> Z = [c]
 z : d = 0 -> r = 0 -> FrI c 0 x
 n : r <= d -> Z = []
 e : r <= d -> 0 < d -> x = []
structure P2 (c : Cas) (first j r q : Nat) (x : List Sed) : Prop where
 a : dstN first j < r -> HasI c x
 z : dstN first j = 0 -> r = 0 -> FrI c 0 x
 y : dstN first j = r -> 0 < r -> pcN first j < q -> FrI c (r : Int) x
 w : dstN first j = r -> 0 < r -> q <= pcN first j -> x = []
 e : r < dstN first j -> x = []
def cntN (x : List Sed) : Int := if x.length = 0 then 0 else 1
theorem cnt_has {c : Cas} {x : List Sed} (h : HasI c x) : cntN x = 1 := by
 obtain ⟨tm, til, rfl, _⟩ := h; rfl
theorem p_step {c : Cas} {d r : Nat} {x : List Sed} {draw : Int} (hc : MsI c) (hr : r <= 17) (h : P0 c d r x) : ∃ l' Z, mstepF x (r : Int) draw = (l', Z, 0) /\ P1 c d r l' Z /\ cntN l' = cntN x := by
 by_cases h1 : d + 1 < r
 . obtain ⟨l', Z, e, h2, h3⟩ := ns_has (now := r) (draw := draw) hc (h.a h1) (by omega)
   exact ⟨l', Z, e, ⟨fun _ => h2, h3, fun g => by omega, fun _ g => by omega, fun g => by omega, fun g => by omega⟩, by rw [cnt_has h2, cnt_has (h.a h1)]⟩
 . by_cases h2 : d + 1 = r
   . obtain ⟨l', e, h3⟩ := ns_fr (r := d) (draw := draw) hc (by omega) (h.b h2)
     rw [show (r : Int) = (d : Int) + 1 by omega]
     exact ⟨l', _, e, ⟨fun _ => h3, .inr rfl, fun _ => rfl, fun _ g => by omega, fun g => by omega, fun g => by omega⟩, by rw [cnt_has h3, cnt_has (fr_has (by omega) (h.b h2))]⟩
   . by_cases h3 : d = 0
     . have hr0 : r = 0 := by omega
       subst h3 hr0
       have hf := h.z rfl rfl
       exact ⟨x, [], ns_fr0 hc hf, ⟨fun g => by omega, .inl rfl, fun g => by omega, fun _ _ => hf, fun _ => rfl, fun _ g => by omega⟩, rfl⟩
     . have hx := h.e (by omega) (by omega)
       subst hx
       exact ⟨[], [], ns_nil (by omega), ⟨fun g => by omega, .inl rfl, fun g => by omega, fun g => by omega, fun _ => rfl, fun _ _ => rfl⟩, rfl⟩
theorem p_12 {c : Cas} {first j r : Nat} {x : List Sed} {Z : List Cas} (h : P1 c (dstN first j) r x Z) : P2 c first j r 0 x :=
 ⟨h.a, h.z, fun _ _ g => by omega, fun g1 g2 _ => h.e (by omega) (by omega), fun g => h.e (by omega) (by omega)⟩
theorem p_20 {c : Cas} {first j r n : Nat} {x : List Sed} (hj : j < n) (hf : first < n) (h : P2 c first j r (2 * n) x) : P0 c (dstN first j) (r + 1) x := by
 refine ⟨fun g => h.a (by omega), fun g => ?_, fun _ g => by omega, fun g _ => h.e (by omega)⟩
 by_cases h0 : r = 0
 . subst h0
   rw [show dstN first j = 0 by omega]
   exact h.z (by omega) rfl
 . rw [show (dstN first j : Int) = (r : Int) by omega]
   refine h.y (by omega) (by omega) ?_
   have hd : dstN first j = r := by omega
   unfold dstN at hd
   unfold pcN
   split <;> split at hd <;> omega
def metN (i t j : Nat) : Prop := (t = 0 /\ j + 1 = i) \/ (t = 1 /\ j = i + 1)
theorem pc_met {first i t j k : Nat} (h : metN i t j) (hk : dstN first k ≠ 0) (e : pcN first k = 2 * i + t) : k = j := by
 unfold dstN at hk
 unfold pcN at e
 rcases h with ⟨h1, h2⟩ | ⟨h1, h2⟩ <;> split at e <;> split at hk <;> omega
theorem dst_met {first i t j : Nat} (h : metN i t j) : dstN first j <= dstN first i + 1 := by
 unfold dstN
 rcases h with ⟨h1, h2⟩ | ⟨h1, h2⟩ <;> split <;> split <;> omega
theorem pc_par {first i t j : Nat} (h : metN i t j) (hd : dstN first j = dstN first i + 1) : pcN first j = 2 * i + t := by
 unfold dstN at hd
 unfold pcN
 rcases h with ⟨h1, h2⟩ | ⟨h1, h2⟩ <;> split at hd <;> split at hd <;> split <;> omega
theorem par_pc {first i t j : Nat} (h : metN i t j) (hd : dstN first j ≠ 0) (e : pcN first j = 2 * i + t) : dstN first j = dstN first i + 1 := by
 unfold pcN at e
 unfold dstN at hd ⊢
 rcases h with ⟨h1, h2⟩ | ⟨h1, h2⟩ <;> split at e <;> split at hd <;> (repeat' split) <;> omega
theorem p_acc {c : Cas} {first i t j r : Nat} {x : List Sed} {Z : List Cas} {xi : List Sed} {draw : Int} (hc : MsI c) (hr : r <= 17) (hm : metN i t j) (hi : P1 c (dstN first i) r xi Z) (hZ : Z = [c]) (h : P2 c first j r (2 * i + t) x) :
 ∃ l' b, acceptF x (r : Int) c false draw = (l', b, 0) /\ P2 c first j r (2 * i + t + 1) l' /\ cntN l' = cntN x + (if b = true then 1 else 0) := by
 have hdi : dstN first i < r := by
  rcases Nat.lt_or_ge (dstN first i) r with g | g
  . exact g
  . have := hi.n g; rw [this] at hZ; cases hZ
 have hdj := dst_met (first := first) hm
 by_cases h1 : dstN first j < r
 . have hx := h.a h1
   obtain ⟨l', e, h2⟩ := na_has (now := r) (draw := draw) hc hx (by omega)
   refine ⟨l', false, e, ⟨fun _ => h2, fun _ g => by omega, fun g => by omega, fun g => by omega, fun g => by omega⟩, ?_⟩
   rw [cnt_has h2, cnt_has hx]; rfl
 . have h2 : dstN first j = r := by omega
   have hp := pc_par (first := first) hm (by omega)
   have hx := h.w h2 (by omega) (by omega)
   subst hx
   obtain ⟨l', e, h3⟩ := na_nil (now := r) (draw := draw) hc (by omega)
   refine ⟨l', true, e, ⟨fun g => by omega, fun _ g => by omega, fun _ _ _ => h3, fun _ _ g => by omega, fun g => by omega⟩, ?_⟩
   rw [cnt_has (fr_has (by omega) h3)]; rfl
theorem p_mute {c : Cas} {first i t j r : Nat} {x : List Sed} {Z : List Cas} {xi : List Sed} (hm : metN i t j) (hi : P1 c (dstN first i) r xi Z) (hZ : Z = []) (h : P2 c first j r (2 * i + t) x) : P2 c first j r (2 * i + t + 1) x := by
 refine ⟨h.a, h.z, fun g1 g2 g3 => ?_, fun g1 g2 g3 => h.w g1 g2 (by omega), h.e⟩
 by_cases hp : pcN first j < 2 * i + t
 . exact h.y g1 g2 hp
 . have hd := par_pc (first := first) hm (by omega) (by omega)
   have := hi.b (by omega)
   rw [this] at hZ; cases hZ
theorem p_cmp {c : Cas} {first j r q : Nat} {x : List Sed} {S : List Smy} {draw : Int} (hc : MsI c) (hr : r <= 17) (hS : validSms S = true) (h : P2 c first j r q x) :
 ∃ l' b, compareF x (r : Int) S draw = (l', b, 0) /\ P2 c first j r q l' /\ cntN l' = cntN x := by
 have hx0 : x = [] -> ∃ l' b, compareF x (r : Int) S draw = (l', b, 0) /\ P2 c first j r q l' /\ cntN l' = cntN x := fun hx => by
  obtain ⟨b, e⟩ := nc_nil (now := r) (draw := draw) hS (by omega)
  subst hx
  exact ⟨[], b, e, h, rfl⟩
 by_cases h1 : dstN first j < r
 . have hx := h.a h1
   obtain ⟨l', b, e, h2⟩ := nc_has (now := r) (draw := draw) hc hx hS (by omega)
   refine ⟨l', b, e, ⟨fun _ => h2, fun _ g => by omega, fun g => by omega, fun g => by omega, fun g => by omega⟩, ?_⟩
   rw [cnt_has h2, cnt_has hx]
 . by_cases h2 : r < dstN first j
   . exact hx0 (h.e h2)
   . have h3 : dstN first j = r := by omega
     by_cases h0 : r = 0
     . have hf := h.z (by omega) h0
       obtain ⟨b, e⟩ := nc_fr (now := r) (draw := draw) hc (by omega) hf hS (by omega)
       exact ⟨x, b, e, h, rfl⟩
     . by_cases hp : pcN first j < q
       . have hf := h.y h3 (by omega) hp
         obtain ⟨b, e⟩ := nc_fr (now := r) (draw := draw) hc (by omega) hf hS (by omega)
         exact ⟨x, b, e, h, rfl⟩
       . exact hx0 (h.w h3 (by omega) (by omega))
theorem p0_valid {c : Cas} {d r : Nat} {x : List Sed} (hc : MsI c) (hr : r <= 17) (h : P0 c d r x) : validL x = true := by
 by_cases h1 : d + 1 < r
 . exact has_valid hc (h.a h1)
 . by_cases h2 : d + 1 = r
   . exact has_valid hc (fr_has (by omega) (h.b h2))
   . by_cases h3 : d = 0
     . exact has_valid hc (fr_has (by omega) (h.z h3 (by omega)))
     . rw [h.e (by omega) (by omega)]; rfl
theorem p2_valid {c : Cas} {first j r q : Nat} {x : List Sed} (hc : MsI c) (hr : r <= 17) (h : P2 c first j r q x) : validL x = true := by
 by_cases h1 : dstN first j < r
 . exact has_valid hc (h.a h1)
 . by_cases h2 : r < dstN first j
   . rw [h.e h2]; rfl
   . by_cases h0 : r = 0
     . exact has_valid hc (fr_has (by omega) (h.z (by omega) h0))
     . by_cases hp : pcN first j < q
       . exact has_valid hc (fr_has (by omega) (h.y (by omega) (by omega) hp))
       . rw [h.w (by omega) (by omega) (by omega)]; rfl
theorem p0_last {c : Cas} {first j : Nat} {x : List Sed} (hf : first < 4) (hj : j < 4) (h : P0 c (dstN first j) 18 x) : cntN x = 1 := by
 have : dstN first j <= 3 := by unfold dstN; split <;> omega
 exact cnt_has (h.a (by omega))
theorem p0_start {c : Cas} {first j : Nat} {x l : List Sed} (hf : FrI c 0 l) (h1 : j = first -> x = l) (h2 : j ≠ first -> x = []) : P0 c (dstN first j) 0 x /\ cntN x = if j = first then 1 else 0 := by
 by_cases h : j = first
 . rw [if_pos h, h1 h]
   have : dstN first j = 0 := by unfold dstN; split <;> omega
   exact ⟨⟨fun g => by omega, fun g => by omega, fun _ _ => hf, fun _ g => by omega⟩, cnt_has (fr_has (by omega) hf)⟩
 . rw [if_neg h, h2 h]
   have : dstN first j ≠ 0 := by unfold dstN; split <;> omega
   exact ⟨⟨fun g => by omega, fun g => by omega, fun g => by omega, fun _ _ => rfl⟩, rfl⟩
end Go.Proofs.Ytfaibcgakcmhcaa.AX
namespace Go.Proofs.Ytfaibcgakcmhcaa.AX
open Go.RowKit
theorem nff_slBb {L : List Int} : NFF (.e (.c (slR eB L))) := nff_c (nf_sl fun i _ j _ => (eB.flat _ _).nf)
structure BytT (n : Nat) (l : List Int) (K : Nat) where
 i : Nat
 L : List Int
 q : Int
 hi : i <= K
 hL : L.length = K
 hb : BL L
 ht : TapeOk n (rI l) q
theorem u8rb (z : Int) : 0 <= IntKind.u8.wrap z /\ IntKind.u8.wrap z < 256 := by
 simp only [IntKind.wrap, IntKind.signed, IntKind.bits]
 constructor
 . exact Int.emod_nonneg _ (by decide)
 . exact Int.emod_lt_of_pos _ (by decide)
theorem bl_setb {L : List Int} {i : Nat} {v : Int} (h : BL L) (hv : 0 <= v /\ v < 256) : BL (L.set i v) := ⟨fun x hx => by
 rcases List.mem_or_eq_of_mem_set hx with h1 | h1
 . exact h.m x h1
 . rw [h1]; exact hv⟩
theorem bl_repb (n : Nat) : BL (List.replicate n 0) := ⟨fun x hx => by rw [(List.mem_replicate.1 hx).2]; omega⟩
theorem leN_setIb {c : Wc} {t : TypeId} {L : List Int} {idx i n : Nat} {x : Int} {g : Nat -> CV} (e : idx = i) (hn : n = L.length) (hi : i < L.length) (hg : g 0 = .int .u8 x) : LeN c ⟨t, n, eB.sz, false, updE false (rowF eB L) idx g⟩ (ents eB t (L.set i x)) := by
 subst e
 refine leN_set hn hi (fun i _ j _ => (eB.flat _ _).le) fun j hj => ?_
 have hj : j < 1 := hj
 obtain rfl : j = 0 := by omega
 rw [hg]
 exact leC_int rfl
theorem leN_repb {c : Wc} {t : TypeId} {n : Nat} : LeN c ⟨t, n, 1, false, fun _ => nth [CV.int .u8 0]⟩ (ents eB t (List.replicate n 0)) := by
 refine ⟨rfl, by show n = (List.replicate n (0 : Int)).length; rw [List.length_replicate], rfl, rfl, fun k hk j hj => ?_⟩
 have hk : k < n := hk
 have hj : j < 1 := hj
 obtain rfl : j = 0 := by omega
 refine leC_int ?_
 show (0 : Int) = (List.replicate n (0 : Int)).getD k default
 simp [List.getD_eq_getElem?_getD, List.getElem?_replicate, hk]
theorem bytesB_ok (n : Nat) (l : List Int) (q m : Int) (ht : TapeOk n (rI l) q) (h1 : 0 <= m) (h2 : m <= 2000) :
 ∃ (r : List Int) (q' : Int), (BL r /\ (r.length : Int) <= m) /\ TapeOk n (rI l) q' /\ MethOk Try.prog 28 [(cI .i64).enc m] (tapeN n (rI l) q) (.e (.c (slR eB r))) (tapeN n (rI l) q') := by
 have w1 : IntKind.i64.wrap (m + 1) = m + 1 := IntWalk.i64_in _ (by omega)
 refine tape_intro (S := fun r => BL r /\ (r.length : Int) <= m) (enc := fun r => .e (.c (slR eB r))) (wd := 1) (Q := mkQ LT0) (by decide) tysOk (q_of LT0_ok) mixed Try.func28 rfl _ (by show 1 + 1 <= _; decide) (fun _ => nff_slBb) ?_
 repeat' (first | (apply And.intro <;> intro hc <;> (first | exact Bool.noConfusion hc | (simp only [zb0] at hc) | skip)) | (refine And.intro zp1 ?_) | (apply And.intro) | (intro s hs))
 rename_i s1 hs1
 have hs1' : 0 <= s1 /\ s1 < IntKind.i64.wrap (m + 1) := hs1
 rw [w1] at hs1'
 refine loop_intro (mono_of LT0_ok) (fun s : BytT n l s1.toNat => (⟨[(0, one (.ptr 0 0 0 false)), (5, one (.os 6 0 s.L.length)), (6, one (.int .i64 (s.i : Int)))],
  [(0, some (tapeN n (rI l) s.q)), (6, some (ents eB 5 s.L))], 7⟩ : Hd)) (fun s => s1.toNat - s.i) (fun _ => rfl) ?_ ⟨0, List.replicate s1.toNat 0, _, by omega, by simp, bl_repb _, hs⟩ [] ?_
 . rintro ⟨i, L, q2, hi, hL, hb, ht2⟩
   dsimp only at hi hL hb ht2 ⊢
   repeat' (first | (apply And.intro <;> intro hc <;> (first | exact Bool.noConfusion hc | (simp only [zb0] at hc) | skip)) | (refine And.intro zp1 ?_) | (apply And.intro) | (intro s hs))
   . rename_i s2 hs2
     refine ⟨⟨i + 1, L.set i (IntKind.u8.wrap s2), _, by omega, by rw [List.length_set]; exact hL, bl_setb hb (u8rb _), hs⟩, [], by dsimp only; omega, rfl, ?_, ?_⟩
     . repeat' (first | exact zw0 | refine leF_int ?_ | refine leF_bool ?_ | exact zw1 | apply And.intro)
       . exact leF_c (leC_os rfl (by dsimp only; rw [List.length_set]))
       . refine (IntWalk.i64_in _ ?_).trans ?_
         . constructor <;> omega
         . dsimp only
           omega
     . repeat' (first | exact zw0 | refine leF_int ?_ | refine leF_bool ?_ | exact zw1 | apply And.intro)
       . exact tapeN_le
       . exact leN_setIb (by omega) rfl (by omega) rfl
   . exact ⟨(L, q2), ⟨⟨hb, (show (L.length : Int) <= m by omega)⟩, ht2⟩, ⟨leF_c (leC_row_fin rfl rfl), tapeN_le⟩⟩
 . refine ⟨rfl, ?_, ?_⟩
   . repeat' (first | exact zw0 | refine leF_int ?_ | refine leF_bool ?_ | exact zw1 | apply And.intro)
     exact leF_c (leC_os rfl (by simp))
   . repeat' (first | exact zw0 | refine leF_int ?_ | refine leF_bool ?_ | exact zw1 | apply And.intro)
     . exact tapeN_le
     . exact leN_repb
abbrev bytesBE : Entry := tapeE (AC.cons (cI .i64) AC.nil) (fun a => 0 <= a.1 /\ a.1 <= 2000) (fun a (r : List Int) => BL r /\ (r.length : Int) <= a.1) (fun r => .e (.c (slR eB r)))
theorem bytesBE_ok : EntOk Try.prog 28 bytesBE := tapeE_ok ⟨_, Try.func28, rfl, by kernel_rfl⟩ fun n l q a ht hp => bytesB_ok n l q a.1 ht hp.1 hp.2
def LSp : CsL := (9, some newTapeE) :: (11, some acceptE) :: (21, some mstepE) :: (29, some compareE) :: (30, some summE) :: (12, some known35E) :: (28, some bytesBE) :: LT0
theorem LSp_ok : AllOk Try.prog LSp := ⟨newTapeE_ok, acceptE_ok, mstepE_ok, compareE_ok, summE_ok, known35E_ok, bytesBE_ok, LT0_ok⟩
theorem give_S {c : Wc} {k : Nat} {t : TypeId} {x : List Sed} {n : Nat} (hn : n = x.length) (hd : hget c.H k = some (entN neS t x)) (hk : c.dead k = true) : LeC c (.os k 0 n) (slN neS x) := by
 subst hn
 refine leC_os_sl hd hk rfl rfl (Nat.le_of_eq (Nat.zero_add _)) fun q hq j hj => ?_
 show LeC c (rowN neS x (0 + q) j) (rowN neS x q j)
 rw [Nat.zero_add]
 exact (neS.sh _ j hj).le
theorem give_C {c : Wc} {k : Nat} {t : TypeId} {x : List Cas} {n : Nat} (hn : n = x.length) (hd : hget c.H k = some (entN neC t x)) (hk : c.dead k = true) : LeC c (.os k 0 n) (slN neC x) := by
 subst hn
 refine leC_os_sl hd hk rfl rfl (Nat.le_of_eq (Nat.zero_add _)) fun q hq j hj => ?_
 show LeC c (rowN neC x (0 + q) j) (rowN neC x q j)
 rw [Nat.zero_add]
 exact (neC.sh _ j hj).le
def nodesE (N : List (List Sed)) : Ent := ⟨25, N.length, 1, false, fun k _ => slN neS (N.getD k [])⟩
theorem nodes_le {c : Wc} {N : List (List Sed)} : LeN c (nodesE N) (nodesE N) := ⟨rfl, rfl, rfl, rfl, fun k _ j _ => (sh_slN _).le⟩
theorem nget_at {α : Type} {N : List (List α)} {i : Nat} {x : List α} (h : i < N.length) : (N.set i x).getD i [] = x := by
 rw [List.getD_eq_getElem?_getD, List.getElem?_set, if_pos rfl, if_pos h]; rfl
theorem nget_ne {α : Type} {N : List (List α)} {i k : Nat} {x : List α} (h : k ≠ i) : (N.set i x).getD k [] = N.getD k [] := by
 rw [List.getD_eq_getElem?_getD, List.getD_eq_getElem?_getD, List.getElem?_set, if_neg (Ne.symm h)]
theorem nodes_set {c : Wc} {N : List (List Sed)} {i : Nat} {g : Nat -> CV} {x : List Sed} (hi : i < N.length) (hg : LeC c (g 0) (slN neS x)) : LeN c ⟨25, N.length, 1, false, updE false (fun k _ => slN neS (N.getD k [])) i g⟩ (nodesE (N.set i x)) := by
 refine ⟨rfl, (List.length_set).symm, rfl, rfl, fun k hk j hj => ?_⟩
 have hj : j < 1 := hj
 obtain rfl : j = 0 := by omega
 by_cases hki : k = i
 . subst hki
   show LeC c _ (slN neS ((N.set k x).getD k []))
   rw [nget_at hi]
   exact selC_in (beq_refl_nat _) hg
 . show LeC c _ (slN neS ((N.set i x).getD k []))
   rw [nget_ne hki]
   exact selC_out (beq_ne hki) (sh_slN _).le
theorem ov1_put {c : Wc} {t : TypeId} {n J : Nat} {F F' : Nat -> CV} {g : Nat -> CV} (h1 : LeC c (g 0) (F' J)) (h2 : ∀ j, j < n -> j ≠ J -> LeC c (F j) (F' j)) : LeN c ⟨t, 1, n, true, updE true (fun _ j => F j) 0 (ovw true n (fun j => F j) J 1 g)⟩ ⟨t, 1, n, true, fun _ j => F' j⟩ := by
 refine leN_varA fun j hj => ?_
 show LeC c (ovs (fun j => F j) J 1 g j) (F' j)
 rw [ovs_eq]
 unfold ovr
 by_cases hJ : j = J
 . subst hJ
   rw [show (Nat.ble j j && Nat.blt j (j + 1)) = true from by rw [Nat.ble_eq_true_of_le (Nat.le_refl _), show Nat.blt j (j + 1) = true from Nat.ble_eq_true_of_le (Nat.le_refl _)]; rfl, Nat.sub_self]
   exact h1
 . have e : (Nat.ble J j && Nat.blt j (J + 1)) = false := by
    cases hb : (Nat.ble J j && Nat.blt j (J + 1)) with
    | false => rfl
    | true =>
      simp only [Bool.and_eq_true] at hb
      have h1 := Nat.le_of_ble_eq_true hb.1
      have h2 : j + 1 <= J + 1 := Nat.le_of_ble_eq_true hb.2
      omega
   rw [e]; exact h2 j hj hJ
def saidE (D : Nat -> List Cas) : Ent := ⟨68, 1, 8, true, fun _ j => slN neC (D j)⟩
def cntE (g : Nat -> Int) : Ent := ⟨66, 1, 8, true, fun _ j => .int .i64 (g j)⟩
theorem said_le {c : Wc} {D : Nat -> List Cas} : LeN c (saidE D) (saidE D) := leN_varA fun j hj => (sh_slN _).le
theorem cnt_le {c : Wc} {g : Nat -> Int} : LeN c (cntE g) (cntE g) := leN_varA fun j hj => leC_int rfl
structure RdS (m : Nat) (z : List Int) (c : Cas) (first n : Nat) where
 r : Nat
 q : Int
 N : List (List Sed)
 g : Nat -> Int
 hr : r <= 18
 ht : TapeOk m (rI z) q
 hN : N.length = n
 hP : ∀ j, j < n -> P0 c (dstN first j) r (N.getD j [])
 hg : ∀ j, j < n -> g j = cntN (N.getD j [])
theorem mod3 (v : Int) (hv : -9223372036854775808 <= v /\ v < 9223372036854775808) : ∃ n : Nat, IntKind.i64.wrap (2 + modF v 3) = (n : Int) /\ 2 <= n /\ n <= 4 := by
 have h1 : 0 <= modF v 3 /\ modF v 3 < 3 := by
  unfold modF
  have e1 := Int.tmod_lt_of_pos v (show (0 : Int) < 3 by decide)
  have e2 := Int.lt_tmod_of_pos v (show (0 : Int) < 3 by decide)
  split <;> omega
 refine ⟨(2 + modF v 3).toNat, ?_, by omega, by omega⟩
 rw [IntWalk.i64_in _ (by omega)]; omega
theorem nodes_new {c : Wc} {n i : Nat} {g : Nat -> CV} {x : List Sed} (hi : i < n) (hg : LeC c (g 0) (slN neS x)) : LeN c ⟨25, n, 1, false, updE false (fun _ => nth [CV.nils]) i g⟩ (nodesE ((List.replicate n []).set i x)) := by
 refine ⟨rfl, by show n = ((List.replicate n ([] : List Sed)).set i x).length; rw [List.length_set, List.length_replicate], rfl, rfl, fun k hk j hj => ?_⟩
 have hj : j < 1 := hj
 have hk : k < n := hk
 obtain rfl : j = 0 := by omega
 by_cases hki : k = i
 . subst hki
   show LeC c _ (slN neS (((List.replicate n []).set k x).getD k []))
   rw [nget_at (by rw [List.length_replicate]; exact hi)]
   exact selC_in (beq_refl_nat _) hg
 . show LeC c _ (slN neS (((List.replicate n []).set i x).getD k []))
   rw [nget_ne hki, show (List.replicate n ([] : List Sed)).getD k [] = [] by simp [List.getD_eq_getElem?_getD, List.getElem?_replicate]; split <;> rfl]
   exact selC_out (beq_ne hki) (leC_nils_sl rfl)
theorem acc_first {s : List Sed × Bool × Int} {M : List Sed} {C c : Cas} {draw : Int} (hs : s = acceptF M 0 C false draw) (hM : M = []) (hC : C = c) (hc : MsI c) : ∃ l', s = (l', true, 0) /\ FrI c 0 l' := by
 subst hM hC
 obtain ⟨l', e, h⟩ := na_nil (now := 0) (draw := draw) hc (by omega)
 exact ⟨l', hs.trans e, h⟩
def gF (first : Nat) (j : Nat) : Int := if j = first then 1 else 0
theorem ms_c {x : Int} {b : List Int} (hx : 0 <= x /\ x < 50) (hb : BL b /\ (b.length : Int) <= 4) : MsI ⟨9, IntKind.i64.wrap (100 + x), b⟩ := by
 have e : IntKind.i64.wrap (100 + x) = 100 + x := IntWalk.i64_in _ (by omega)
 exact ⟨rfl, by dsimp only; rw [e]; omega, by dsimp only; omega⟩
theorem cnt_new {c : Wc} {J : Nat} {g : Nat -> CV} {k : Nat} (hk : J = k) (hg : g 0 = .int .i64 1) : LeN c ⟨66, 1, 8, true, updE true (fun _ => nth [CV.int .i64 0, CV.int .i64 0, CV.int .i64 0, CV.int .i64 0, CV.int .i64 0, CV.int .i64 0, CV.int .i64 0, CV.int .i64 0]) 0 (ovw true 8 (nth [CV.int .i64 0, CV.int .i64 0, CV.int .i64 0, CV.int .i64 0, CV.int .i64 0, CV.int .i64 0, CV.int .i64 0, CV.int .i64 0]) J 1 g)⟩ (cntE (gF k)) := by
 subst hk
 refine ov1_put (F := nth [CV.int .i64 0, CV.int .i64 0, CV.int .i64 0, CV.int .i64 0, CV.int .i64 0, CV.int .i64 0, CV.int .i64 0, CV.int .i64 0]) (F' := fun j => .int .i64 (gF J j)) ?_ fun j hj hne => ?_
 . rw [hg]; exact leC_int (if_pos rfl).symm
 . have e : nth [CV.int .i64 0, CV.int .i64 0, CV.int .i64 0, CV.int .i64 0, CV.int .i64 0, CV.int .i64 0, CV.int .i64 0, CV.int .i64 0] j = .int .i64 0 := by
    rcases (show j = 0 \/ j = 1 \/ j = 2 \/ j = 3 \/ j = 4 \/ j = 5 \/ j = 6 \/ j = 7 by omega) with rfl | rfl | rfl | rfl | rfl | rfl | rfl | rfl <;> rfl
   rw [e]; exact leC_int (if_neg hne).symm
theorem rd_p0 {c : Cas} {n first i : Nat} {l0 : List Sed} (hi : i = first) (hf : first < n) (h : FrI c 0 l0) : ∀ j, j < n -> P0 c (dstN first j) 0 (((List.replicate n []).set i l0).getD j []) /\ gF first j = cntN (((List.replicate n []).set i l0).getD j []) := by
 subst hi
 intro j hj
 have := p0_start (x := ((List.replicate n []).set i l0).getD j []) h (first := i) (j := j) (fun e => by subst e; exact nget_at (by rw [List.length_replicate]; exact hj)) (fun e => by rw [nget_ne e]; simp [List.getD_eq_getElem?_getD, List.getElem?_replicate]; split <;> rfl)
 exact ⟨this.1, this.2.symm⟩
structure StS (m : Nat) (z : List Int) (c : Cas) (first n r : Nat) (g : Nat -> Int) where
 i : Nat
 q : Int
 N : List (List Sed)
 D : Nat -> List Cas
 hi : i <= n
 ht : TapeOk m (rI z) q
 hN : N.length = n
 h1 : ∀ k, k < n -> k < i -> P1 c (dstN first k) r (N.getD k []) (D k)
 h0 : ∀ k, k < n -> i <= k -> P0 c (dstN first k) r (N.getD k [])
 hg : ∀ j, j < n -> g j = cntN (N.getD j [])
theorem p_oth {c : Cas} {first j r q : Nat} {x : List Sed} (hne : dstN first j ≠ 0 -> pcN first j ≠ q) (h : P2 c first j r q x) : P2 c first j r (q + 1) x :=
 ⟨h.a, h.z, fun g1 g2 g3 => h.y g1 g2 (by have := hne (by omega); omega), fun g1 g2 g3 => h.w g1 g2 (by omega), h.e⟩
def putF {α : Type} (D : Nat -> α) (i : Nat) (Z : α) (k : Nat) : α := if k = i then Z else D k
theorem sp_step {s : List Sed × List Cas × Int} {M x : List Sed} {now draw : Int} {c : Cas} {d r : Nat} (hs : s = mstepF M now draw) (hM : M = x) (hn : now = (r : Int)) (hc : MsI c) (hr : r <= 17) (h : P0 c d r x) : ∃ l' Z, s = (l', Z, 0) /\ P1 c d r l' Z /\ cntN l' = cntN x := by
 subst hM hn
 obtain ⟨l', Z, e, h1, h2⟩ := p_step (draw := draw) hc hr h
 exact ⟨l', Z, hs.trans e, h1, h2⟩
def StS.next {m : Nat} {z : List Int} {c : Cas} {first n r : Nat} {g : Nat -> Int} (s : StS m z c first n r g) (h : s.i < n) (q : Int) (l' : List Sed) (Z : List Cas) (ht : TapeOk m (rI z) q) (hp : P1 c (dstN first s.i) r l' Z) (hcn : cntN l' = cntN (s.N.getD s.i [])) : StS m z c first n r g where
 i := s.i + 1
 q := q
 N := s.N.set s.i l'
 D := putF s.D s.i Z
 hi := h
 ht := ht
 hN := by rw [List.length_set]; exact s.hN
 h1 k hk hki := by
  unfold putF
  by_cases e : k = s.i
  . rw [if_pos e, e, nget_at (by rw [s.hN]; exact h)]; exact hp
  . rw [if_neg e, nget_ne e]; exact s.h1 k hk (by omega)
 h0 k hk hki := by rw [nget_ne (by omega)]; exact s.h0 k hk (by omega)
 hg j hj := by
  by_cases e : j = s.i
  . subst e; rw [nget_at (by rw [s.hN]; exact h), hcn]; exact s.hg _ hj
  . rw [nget_ne e]; exact s.hg j hj
structure MtS (m : Nat) (z : List Int) (c : Cas) (first n r : Nat) where
 i : Nat
 q : Int
 N : List (List Sed)
 g : Nat -> Int
 hi : i <= n
 ht : TapeOk m (rI z) q
 hN : N.length = n
 h2 : ∀ k, k < n -> P2 c first k r (2 * i) (N.getD k [])
 hg : ∀ j, j < n -> g j = cntN (N.getD j [])
structure MtT (m : Nat) (z : List Int) (c : Cas) (first n r i : Nat) where
 t : Nat
 q : Int
 N : List (List Sed)
 g : Nat -> Int
 hi : t <= 2
 ht : TapeOk m (rI z) q
 hN : N.length = n
 h2 : ∀ k, k < n -> P2 c first k r (2 * i + t) (N.getD k [])
 hg : ∀ j, j < n -> g j = cntN (N.getD j [])
structure MtX (m : Nat) (z : List Int) (c : Cas) (first n r i t j : Nat) (Z : List Cas) where
 p : Nat
 q : Int
 N : List (List Sed)
 g : Nat -> Int
 hp : p <= Z.length
 ht : TapeOk m (rI z) q
 hN : N.length = n
 hne : ∀ k, k < n -> k ≠ j -> P2 c first k r (2 * i + t) (N.getD k [])
 h0 : p = 0 -> P2 c first j r (2 * i + t) (N.getD j [])
 h1 : p ≠ 0 -> P2 c first j r (2 * i + t + 1) (N.getD j [])
 hg : ∀ j, j < n -> g j = cntN (N.getD j [])
def StS.end {m : Nat} {z : List Int} {c : Cas} {first n r : Nat} {g : Nat -> Int} (s : StS m z c first n r g) (h : ¬ s.i < n) : MtS m z c first n r :=
 ⟨0, s.q, s.N, g, Nat.zero_le _, s.ht, s.hN, fun k hk => p_12 (s.h1 k hk (by omega)), s.hg⟩
theorem StS.said {m : Nat} {z : List Int} {c : Cas} {first n r : Nat} {g : Nat -> Int} (s : StS m z c first n r g) (h : ¬ s.i < n) : ∀ i, i < n -> ∃ x, P1 c (dstN first i) r x (s.D i) := fun i hi => ⟨_, s.h1 i hi (by omega)⟩
def MtS.start {m : Nat} {z : List Int} {c : Cas} {first n r : Nat} (s : MtS m z c first n r) : MtT m z c first n r s.i := ⟨0, s.q, s.N, s.g, Nat.zero_le _, s.ht, s.hN, s.h2, s.hg⟩
def MtS.next {m : Nat} {z : List Int} {c : Cas} {first n r : Nat} (s : MtS m z c first n r) (h : s.i < n) (u : MtT m z c first n r s.i) (hu : ¬ u.t < 2) : MtS m z c first n r :=
 ⟨s.i + 1, u.q, u.N, u.g, h, u.ht, u.hN, fun k hk => by
   have e : 2 * (s.i + 1) = 2 * s.i + u.t := by have := u.hi; omega
   rw [e]; exact u.h2 k hk, u.hg⟩
def MtS.end {m : Nat} {z : List Int} {c : Cas} {first n r : Nat} (s : MtS m z c first n r) (h : ¬ s.i < n) (hf : first < n) (hr : r < 18) : RdS m z c first n :=
 ⟨r + 1, s.q, s.N, s.g, hr, s.ht, s.hN, fun j hj => p_20 hj hf (by
   have e : 2 * n = 2 * s.i := by have := s.hi; omega
   rw [e]; exact s.h2 j hj), s.hg⟩
theorem met_pc {first i t k : Nat} (ht : t < 2) (hd : dstN first k ≠ 0) (e : pcN first k = 2 * i + t) : metN i t k := by
 have hne : k ≠ first := fun h => hd (by unfold dstN; rw [if_pos (by omega)]; omega)
 unfold metN
 by_cases h : k < first
 . have e2 : pcN first k = 2 * (k + 1) := if_pos h
   rw [e2] at e
   omega
 . have e2 : pcN first k = 2 * (k - 1) + 1 := if_neg h
   rw [e2] at e
   omega
def MtT.skip {m : Nat} {z : List Int} {c : Cas} {first n r i : Nat} (s : MtT m z c first n r i) (h : s.t < 2) (hno : ∀ k, k < n -> ¬ metN i s.t k) : MtT m z c first n r i :=
 ⟨s.t + 1, s.q, s.N, s.g, h, s.ht, s.hN, fun k hk => p_oth (fun hd e => hno k hk (met_pc h hd e)) (s.h2 k hk), s.hg⟩
def MtT.start {m : Nat} {z : List Int} {c : Cas} {first n r i : Nat} (s : MtT m z c first n r i) (j : Nat) (hj : j < n) (Z : List Cas) : MtX m z c first n r i s.t j Z :=
 ⟨0, s.q, s.N, s.g, Nat.zero_le _, s.ht, s.hN, fun k hk _ => s.h2 k hk, fun _ => s.h2 j hj, fun g => absurd rfl g, s.hg⟩
theorem sp_acc {s : List Sed × Bool × Int} {M x : List Sed} {C : Cas} {now draw : Int} {c : Cas} {first i t j r : Nat} {Z : List Cas} {xi : List Sed} (hs : s = acceptF M now C false draw) (hM : M = x) (hC : C = c) (hn : now = (r : Int)) (hc : MsI c) (hr : r <= 17) (hm : metN i t j) (hi : P1 c (dstN first i) r xi Z) (hZ : Z = [c]) (h : P2 c first j r (2 * i + t) x) :
 ∃ l' b, s = (l', b, 0) /\ P2 c first j r (2 * i + t + 1) l' /\ cntN l' = cntN x + (if b = true then 1 else 0) := by
 subst hM hC hn
 obtain ⟨l', b, e, h1, h2⟩ := p_acc (draw := draw) hc hr hm hi hZ h
 exact ⟨l', b, hs.trans e, h1, h2⟩
def MtX.next {m : Nat} {z : List Int} {c : Cas} {first n r i t j : Nat} {Z : List Cas} (s : MtX m z c first n r i t j Z) (h : s.p < Z.length) (hj : j < n) (q : Int) (l' : List Sed) (g' : Nat -> Int) (ht : TapeOk m (rI z) q) (hp : P2 c first j r (2 * i + t + 1) l') (hgj : g' j = cntN l') (hgn : ∀ k, k ≠ j -> g' k = s.g k) : MtX m z c first n r i t j Z where
 p := s.p + 1
 q := q
 N := s.N.set j l'
 g := g'
 hp := h
 ht := ht
 hN := by rw [List.length_set]; exact s.hN
 hne k hk e := by rw [nget_ne e]; exact s.hne k hk e
 h0 e := absurd e (Nat.succ_ne_zero _)
 h1 _ := by rw [nget_at (by rw [s.hN]; exact hj)]; exact hp
 hg k hk := by
  by_cases e : k = j
  . subst e; rw [nget_at (by rw [s.hN]; exact hj)]; exact hgj
  . rw [nget_ne e, hgn k e]; exact s.hg k hk
theorem MtX.last {m : Nat} {z : List Int} {c : Cas} {first n r i t j : Nat} {Z : List Cas} (s : MtX m z c first n r i t j Z) (h : ¬ s.p < Z.length) {xi : List Sed} (hm : metN i t j) (hi : P1 c (dstN first i) r xi Z) : P2 c first j r (2 * i + t + 1) (s.N.getD j []) := by
 by_cases h0 : s.p = 0
 . have hZ : Z = [] := by
    cases Z with
    | nil => rfl
    | cons a t => rw [h0] at h; exact absurd (by simp) h
   exact p_mute hm hi hZ (s.h0 h0)
 . exact s.h1 h0
theorem sp_cmp {s : List Sed × Bool × Int} {M x : List Sed} {S : List Smy} {now draw : Int} {c : Cas} {first j r q : Nat} (hs : s = compareF M now S draw) (hM : M = x) (hn : now = (r : Int)) (hc : MsI c) (hr : r <= 17) (hS : validSms S = true) (h : P2 c first j r q x) :
 ∃ l' b, s = (l', b, 0) /\ P2 c first j r q l' /\ cntN l' = cntN x := by
 subst hM hn
 obtain ⟨l', b, e, h1, h2⟩ := p_cmp (draw := draw) hc hr hS h
 exact ⟨l', b, hs.trans e, h1, h2⟩
def MtT.next {m : Nat} {z : List Int} {c : Cas} {first n r i : Nat} (s : MtT m z c first n r i) (h : s.t < 2) {j : Nat} (hm : metN i s.t j) (hj : j < n) {Z : List Cas} (u : MtX m z c first n r i s.t j Z) (q : Int) (l' : List Sed) (ht : TapeOk m (rI z) q) (hp : P2 c first j r (2 * i + s.t + 1) l') (hcn : cntN l' = cntN (u.N.getD j [])) : MtT m z c first n r i where
 t := s.t + 1
 q := q
 N := u.N.set j l'
 g := u.g
 hi := h
 ht := ht
 hN := by rw [List.length_set]; exact u.hN
 h2 k hk := by
  by_cases e : k = j
  . subst e; rw [nget_at (by rw [u.hN]; exact hj)]; exact hp
  . rw [nget_ne e]; exact p_oth (fun hd e2 => e (pc_met hm hd e2)) (u.hne k hk e)
 hg k hk := by
  by_cases e : k = j
  . subst e; rw [nget_at (by rw [u.hN]; exact hj), hcn]; exact u.hg k hk
  . rw [nget_ne e]; exact u.hg k hk
theorem said_put {c : Wc} {D : Nat -> List Cas} {J i : Nat} {Z : List Cas} {g : Nat -> CV} (hJ : J = i) (hg : LeC c (g 0) (slN neC Z)) : LeN c ⟨68, 1, 8, true, updE true (fun _ j => slN neC (D j)) 0 (ovw true 8 (fun j => slN neC (D j)) J 1 g)⟩ (saidE (putF D i Z)) := by
 subst hJ
 refine ov1_put (F := fun j => slN neC (D j)) (F' := fun j => slN neC (putF D J Z j)) ?_ fun j hj hne => ?_
 . unfold putF; rw [if_pos rfl]; exact hg
 . unfold putF; rw [if_neg hne]; exact (sh_slN _).le
theorem cnt_put {c : Wc} {h : Nat -> Int} {J i : Nat} {v : Int} {g : Nat -> CV} (hJ : J = i) (hg : LeC c (g 0) (.int .i64 v)) : LeN c ⟨66, 1, 8, true, updE true (fun _ j => .int .i64 (h j)) 0 (ovw true 8 (fun j => .int .i64 (h j)) J 1 g)⟩ (cntE (putF h i v)) := by
 subst hJ
 refine ov1_put (F := fun j => .int .i64 (h j)) (F' := fun j => .int .i64 (putF h J v j)) ?_ fun j hj hne => ?_
 . unfold putF; rw [if_pos rfl]; exact hg
 . unfold putF; rw [if_neg hne]; exact leC_int rfl
def pairF (i k : Nat) : Int := if k = 0 then (i : Int) - 1 else (i : Int) + 1
def pairE (i : Nat) : Ent := ⟨3, 2, 1, false, fun k _ => .int .i64 (pairF i k)⟩
theorem pair_le {c : Wc} {i : Nat} : LeN c (pairE i) (pairE i) := ⟨rfl, rfl, rfl, rfl, fun _ _ _ _ => leC_int rfl⟩
theorem pair_new {c : Wc} {i : Nat} {f : Nat -> Nat -> CV} (h0 : LeC c (f 0 0) (.int .i64 ((i : Int) - 1))) (h1 : LeC c (f 1 0) (.int .i64 ((i : Int) + 1))) : LeN c ⟨3, 2, 1, false, f⟩ (pairE i) := by
 refine ⟨rfl, rfl, rfl, rfl, fun k hk j hj => ?_⟩
 have hk : k < 2 := hk
 have hj : j < 1 := hj
 obtain rfl : j = 0 := by omega
 rcases (show k = 0 \/ k = 1 by omega) with rfl | rfl
 . exact h0
 . exact h1
theorem pair_met {i t j n : Nat} {J : Int} (ht : t < 2) (hJ : pairF i t = J) (hj : J = (j : Int)) : metN i t j := by
 unfold pairF at hJ
 unfold metN
 split at hJ <;> omega
theorem pair_no {i t n : Nat} {J : Int} (ht : t < 2) (hJ : pairF i t = J) (h : J < 0 \/ (n : Int) <= J) : ∀ k, k < n -> ¬ metN i t k := by
 intro k hk hm
 unfold pairF at hJ
 unfold metN at hm
 split at hJ <;> omega
theorem rd_sum {s : List Smy} {M x : List Sed} (hs : s = summF M) (hM : M = x) : ∃ S, s = S /\ validSms S = true := by
 subst hM; exact ⟨_, hs, summ_valid⟩
theorem leC_slNe {c : Wc} {x y : List Cas} (h : x = y) : LeC c (slN neC x) (slN neC y) := by subst h; exact (sh_slN _).le
theorem leI_zD {x y : List Cas} (h : x = y) : (x.length : Int) = (y.length : Int) := by rw [h]
theorem sm_row0 {S : List Smy} (h : validSms S = true) : validSms (toL eSm S.length fun k j => rowF eSm S (0 + k) j) = true := by
 have e : (fun k j => rowF eSm S (0 + k) j) = rowF eSm S := by funext k j; rw [Nat.zero_add]
 rw [e, toL_row eSm_rd]; exact h
theorem sm_len0 {S : List Smy} (h : validSms S = true) : (toL eSm S.length fun k j => rowF eSm S (0 + k) j).length <= 9223372036854775807 := by
 have := (vys (sm_row0 h)).1
 omega
theorem met_ne {i t j : Nat} (h : metN i t j) : i ≠ j := by
 unfold metN at h; omega
theorem cnt_rng (x : List Sed) : 0 <= cntN x /\ cntN x <= 1 := by unfold cntN; split <;> omega
theorem putF_at {α : Type} {D : Nat -> α} {i : Nat} {Z : α} : putF D i Z i = Z := if_pos rfl
theorem putF_ne {α : Type} {D : Nat -> α} {i : Nat} {Z : α} : ∀ k, k ≠ i -> putF D i Z k = D k := fun k h => if_neg h
end Go.Proofs.Ytfaibcgakcmhcaa.AX
