/- Texts of one's own in one file: MulticastSpreadsA, MulticastSpreadsW. -/
import Derived.Test.YtfaibcgakcmhcaaJMulticastSpreadse
import Derived.Test.YtfaibcgakcmhcaaJMulticastSpreadsc
set_option linter.unusedVariables false
set_option linter.unusedSimpArgs false
set_option maxHeartbeats 16000000
set_option maxRecDepth 20000
namespace Go.Proofs.Ytfaibcgakcmhcaa.AX
open Go.RowKit
theorem spreads_ok (len : Nat) (z : List Int) (hz : rngL z) (v : Int) (hv : -9223372036854775808 <= v /\ v < 9223372036854775808) : PureOk Try.prog 8 [.e (.c (.sl true len 1 (rI z))), (cI .i64).enc v] (.e (.c (.bool true))) := by
 refine pure_intro (wd := 2) (Q := mkQ LSp) (by decide) tysOk (q_of LSp_ok) mixed Try.func8 rfl _ (by show 2 <= _; decide) _ ?_
 repeat' (first | (apply And.intro <;> intro hc <;> (first | exact Bool.noConfusion hc | (simp only [zb0] at hc) | skip)) | (refine And.intro zp1 ?_) | (apply And.intro) | (intro s hs))
 . exact ⟨z, rfl, hz⟩
 intro ht0
 obtain ⟨m, em⟩ : ∃ m, m = s := ⟨s, rfl⟩
 obtain ⟨q0, eq0⟩ : ∃ q0, q0 = hs := ⟨hs, rfl⟩
 subst em eq0
 obtain ⟨n, hw, hn2, hn4⟩ := mod3 v hv
 repeat' (first | (simp only [hw]) | (apply And.intro <;> intro hc <;> (first | exact Bool.noConfusion hc | (exfalso; first | exact absurd rfl hc | omega) | (simp only [zb0, ne_eq, not_true_eq_false] at hc <;> first | exact absurd rfl hc | (exfalso; first | exact absurd rfl hc | omega) | skip) | skip)) | (refine And.intro zp1 ?_) | (apply And.intro) | (intro s hs; (first | (rename_i f0 hf0 qf hqf x hx qx hqx b hb qb hqb d hd qd hqd; have hMs := ms_c hx hb; obtain ⟨l0, e, hl0⟩ := acc_first (c := ⟨9, IntKind.i64.wrap (100 + x), b⟩) hs rfl (neC_rd ⟨9, IntKind.i64.wrap (100 + x), b⟩) hMs; clear hs; subst e) | (subst hs) | (dsimp only at hs) | skip)))
 . exact ⟨rfl, okD_sl _⟩
 . exact ⟨⟨fun x hx => (List.not_mem_nil hx).elim, Nat.zero_le _⟩, u32ok _⟩
 . show 0 + f0.toNat * 1 + 1 <= 8
   omega
 conv => whnf
 obtain ⟨c, ec⟩ : ∃ c : Cas, (⟨9, IntKind.i64.wrap (100 + x), b⟩ : Cas) = c := ⟨_, rfl⟩
 rw [ec] at hMs hl0
 have hr0 := rd_p0 (n := n) (first := f0.toNat) (i := 0 + f0.toNat) (by omega) (by omega) hl0
 refine loop_intro (mono_of LSp_ok) (fun s : RdS m z c f0.toNat n => (⟨[(1, one (.int .i64 (n : Int))), (5, one (.ptr 0 0 0 false)), (6, one (.os 1 0 n)), (8, one (.ptr 2 0 0 false)), (13, one (.int .i64 (s.r : Int)))], [(0, some (tapeN m (rI z) s.q)), (1, some (nodesE s.N)), (2, some (cntE s.g))], 3⟩ : Hd)) (fun s => 18 - s.r) (fun _ => rfl) ?_ ⟨0, _, (List.replicate n []).set (0 + f0.toNat) l0, gF f0.toNat, Nat.zero_le _, hqd, by rw [List.length_set, List.length_replicate], fun j hj => (hr0 j hj).1, fun j hj => (hr0 j hj).2⟩ [(0, some 4), (1, some 18), (2, some 30)] ⟨rfl, ⟨leF_int rfl, leF_ptr rfl, leF_c (leC_os rfl rfl), leF_ptr rfl, leF_int rfl, trivial⟩, ⟨⟨rfl, tapeN_le⟩, ⟨rfl, nodes_new (by omega) (give_S rfl rfl rfl)⟩, ⟨rfl, cnt_new (by omega) rfl⟩, trivial⟩⟩
 rintro ⟨r, q, N, g, hr, ht, hN, hP, hg⟩
 dsimp only at hr ht hN hP hg ⊢
 by_cases h18 : r < 18
 . repeat' (first | (simp only [hw]) | (apply And.intro <;> intro hc <;> (first | exact Bool.noConfusion hc | (exfalso; first | exact absurd rfl hc | omega) | (simp only [zb0, ne_eq, not_true_eq_false] at hc <;> first | exact absurd rfl hc | (exfalso; first | exact absurd rfl hc | omega) | skip) | skip)) | (refine And.intro zp1 ?_) | (apply And.intro) | (intro s hs; skip))
   conv => whnf
   refine loop_intro (mono_of LSp_ok) (fun s : StS m z c f0.toNat n r g => (⟨[(1, one (.int .i64 (n : Int))), (5, one (.ptr 0 0 0 false)), (6, one (.os 1 0 n)), (8, one (.ptr 2 0 0 false)), (13, one (.int .i64 (r : Int))), (14, one (.ptr 3 0 0 false)), (15, one (.int .i64 (s.i : Int)))], [(0, some (tapeN m (rI z) s.q)), (1, some (nodesE s.N)), (2, some (cntE g)), (3, some (saidE s.D))], 4⟩ : Hd)) (fun s => n - s.i) (fun _ => rfl) ?_ ⟨0, q, N, fun _ => [], Nat.zero_le _, ht, hN, fun k _ hk => absurd hk (Nat.not_lt_zero k), fun k hk _ => hP k hk, hg⟩ [(3, some 7)] ⟨rfl, ⟨leF_int rfl, leF_ptr rfl, leF_c (leC_os rfl rfl), leF_ptr rfl, leF_int rfl, leF_ptr rfl, leF_int rfl, trivial⟩, ⟨⟨rfl, tapeN_le⟩, ⟨rfl, nodes_le⟩, ⟨rfl, cnt_le⟩, ⟨rfl, leN_varA (lt8c ⟨leC_nils_sl rfl, leC_nils_sl rfl, leC_nils_sl rfl, leC_nils_sl rfl, leC_nils_sl rfl, leC_nils_sl rfl, leC_nils_sl rfl, leC_nils_sl rfl⟩)⟩, trivial⟩⟩
   intro s0
   have hN0 := s0.hN
   have htq := s0.ht
   by_cases hin : s0.i < n
   . have hp0 := s0.h0 s0.i hin (Nat.le_refl _)
     have hv0 := p0_valid hMs (by omega) hp0
     have z0 : 0 + (s0.i : Int).toNat = s0.i := Nat.zero_add s0.i
     repeat' (first | (simp only [z0]) | (apply And.intro <;> intro hc <;> (first | exact Bool.noConfusion hc | (exfalso; first | exact absurd rfl hc | omega) | (simp only [zb0, ne_eq, not_true_eq_false] at hc <;> first | exact absurd rfl hc | (exfalso; first | exact absurd rfl hc | omega) | skip) | skip)) | (refine And.intro zp1 ?_) | (apply And.intro) | (intro s hs; (first | (obtain ⟨l', Z, e, hp1, hcn⟩ := sp_step hs (toN_row neS_rd _) rfl hMs (by omega) hp0; clear hs; subst e) | (dsimp only at hs) | skip)))
     . exact ⟨rfl, okHs_sl _⟩
     . exact Eq.mpr (congrArg LHn (toN_row neS_rd _)) (vl_hn hv0)
     . exact (u32ok _).1
     . exact (u32ok _).2
     conv => whnf
     exact ⟨s0.next hin s l' Z hs hp1 hcn, [], by dsimp only [StS.next]; omega, rfl, ⟨leF_int rfl, leF_ptr rfl, leF_c (leC_os rfl rfl), leF_ptr rfl, leF_int rfl, leF_ptr rfl, leF_int ((IntWalk.i64_in _ (by omega)).trans (by show (s0.i : Int) + 1 = ((s0.i + 1 : Nat) : Int); omega)), trivial⟩, ⟨⟨rfl, tapeN_le⟩, ⟨rfl, nodes_set (by omega) (give_S rfl rfl rfl)⟩, ⟨rfl, cnt_le⟩, ⟨rfl, said_put (by omega) (give_C rfl rfl rfl)⟩, trivial⟩⟩
   . have hsd := s0.said hin
     repeat' (first | (simp only [hw]) | (apply And.intro <;> intro hc <;> (first | exact Bool.noConfusion hc | (exfalso; first | exact absurd rfl hc | omega) | (simp only [zb0, ne_eq, not_true_eq_false] at hc <;> first | exact absurd rfl hc | (exfalso; first | exact absurd rfl hc | omega) | skip) | skip)) | (refine And.intro zp1 ?_) | (apply And.intro) | (intro s hs; skip))
     conv => whnf
     refine loop_intro (mono_of LSp_ok) (fun s : MtS m z c f0.toNat n r => (⟨[(1, one (.int .i64 (n : Int))), (5, one (.ptr 0 0 0 false)), (6, one (.os 1 0 n)), (8, one (.ptr 2 0 0 false)), (13, one (.int .i64 (r : Int))), (14, one (.ptr 3 0 0 false)), (19, one (.int .i64 (s.i : Int)))], [(0, some (tapeN m (rI z) s.q)), (1, some (nodesE s.N)), (2, some (cntE s.g)), (3, some (saidE s0.D))], 4⟩ : Hd)) (fun s => n - s.i) (fun _ => rfl) ?_ (s0.end hin) [] ⟨rfl, ⟨leF_int rfl, leF_ptr rfl, leF_c (leC_os rfl rfl), leF_ptr rfl, leF_int rfl, leF_ptr rfl, leF_int rfl, trivial⟩, ⟨⟨rfl, tapeN_le⟩, ⟨rfl, nodes_le⟩, ⟨rfl, cnt_le⟩, ⟨rfl, said_le⟩, trivial⟩⟩
     clear hsd
     have hsd := s0.said hin
     intro s1
     have hN1 := s1.hN
     have htq1 := s1.ht
     by_cases hi1 : s1.i < n
     . obtain ⟨xi, hsi⟩ := hsd s1.i hi1
       have wi1 : IntKind.i64.wrap ((s1.i : Int) - 1) = (s1.i : Int) - 1 := IntWalk.i64_in _ (by omega)
       have wi2 : IntKind.i64.wrap ((s1.i : Int) + 1) = (s1.i : Int) + 1 := IntWalk.i64_in _ (by omega)
       repeat' (first | (simp only [wi1, wi2]) | (apply And.intro <;> intro hc <;> (first | exact Bool.noConfusion hc | (exfalso; first | exact absurd rfl hc | omega) | (simp only [zb0, ne_eq, not_true_eq_false] at hc <;> first | exact absurd rfl hc | (exfalso; first | exact absurd rfl hc | omega) | skip) | skip)) | (refine And.intro zp1 ?_) | (apply And.intro) | (intro s hs; skip))
       conv => whnf
       refine loop_intro (mono_of LSp_ok) (fun u : MtT m z c f0.toNat n r s1.i => (⟨[(1, one (.int .i64 (n : Int))), (5, one (.ptr 0 0 0 false)), (6, one (.os 1 0 n)), (8, one (.ptr 2 0 0 false)), (13, one (.int .i64 (r : Int))), (14, one (.ptr 3 0 0 false)), (19, one (.int .i64 (s1.i : Int))), (112, one (.os 4 0 2)), (113, one (.int .i64 2)), (114, one (.int .i64 (u.t : Int)))], [(0, some (tapeN m (rI z) u.q)), (1, some (nodesE u.N)), (2, some (cntE u.g)), (3, some (saidE s0.D)), (4, some (pairE s1.i))], 5⟩ : Hd)) (fun u => 2 - u.t) (fun _ => rfl) ?_ s1.start [(4, some 18)] ⟨rfl, ⟨leF_int rfl, leF_ptr rfl, leF_c (leC_os rfl rfl), leF_ptr rfl, leF_int rfl, leF_ptr rfl, leF_int rfl, leF_c (leC_os rfl rfl), leF_int rfl, leF_int rfl, trivial⟩, ⟨⟨rfl, tapeN_le⟩, ⟨rfl, nodes_le⟩, ⟨rfl, cnt_le⟩, ⟨rfl, said_le⟩, ⟨rfl, pair_new (leC_int wi1) (leC_int wi2)⟩, trivial⟩⟩
       intro u0
       have hN2 := u0.hN
       have htq2 := u0.ht
       by_cases ht2 : u0.t < 2
       . have z1 : 0 + (u0.t : Int).toNat = u0.t := Nat.zero_add u0.t
         obtain ⟨J, eJ⟩ : ∃ J, pairF s1.i u0.t = J := ⟨_, rfl⟩
         have w1 : IntKind.i64.wrap ((u0.t : Int) + 1) = ((u0.t + 1 : Nat) : Int) := (IntWalk.i64_in _ (by omega)).trans (by omega)
         repeat' (first | (simp only [z1, eJ]) | (apply And.intro <;> intro hc <;> (first | exact Bool.noConfusion hc | (exfalso; first | exact absurd rfl hc | omega) | (simp only [zb0, ne_eq, not_true_eq_false] at hc <;> first | exact absurd rfl hc | (exfalso; first | exact absurd rfl hc | omega) | skip) | skip)) | (refine And.intro zp1 ?_) | (apply And.intro) | (intro s hs; skip))
         . conv => whnf
           exact ⟨u0.skip ht2 (pair_no ht2 eJ (n := n) (.inl (by assumption))), [], by dsimp only [MtT.skip]; omega, rfl, ⟨leF_int rfl, leF_ptr rfl, leF_c (leC_os rfl rfl), leF_ptr rfl, leF_int rfl, leF_ptr rfl, leF_int rfl, leF_c (leC_os rfl rfl), leF_int rfl, leF_int w1, trivial⟩, ⟨⟨rfl, tapeN_le⟩, ⟨rfl, nodes_le⟩, ⟨rfl, cnt_le⟩, ⟨rfl, said_le⟩, ⟨rfl, pair_le⟩, trivial⟩⟩
         . conv => whnf
           exact ⟨u0.skip ht2 (pair_no ht2 eJ (n := n) (.inr (by assumption))), [], by dsimp only [MtT.skip]; omega, rfl, ⟨leF_int rfl, leF_ptr rfl, leF_c (leC_os rfl rfl), leF_ptr rfl, leF_int rfl, leF_ptr rfl, leF_int rfl, leF_c (leC_os rfl rfl), leF_int rfl, leF_int w1, trivial⟩, ⟨⟨rfl, tapeN_le⟩, ⟨rfl, nodes_le⟩, ⟨rfl, cnt_le⟩, ⟨rfl, said_le⟩, ⟨rfl, pair_le⟩, trivial⟩⟩
         . have zD : s0.D (0 + (s1.i : Int).toNat * 1 + 0) = s0.D s1.i := congrArg s0.D (by omega)
           have hJ0 : 0 <= J := by omega
           have hJn : J < (n : Int) := by omega
           obtain ⟨j, ej⟩ : ∃ j : Nat, J = (j : Int) := ⟨J.toNat, by omega⟩
           subst ej
           have hjn : j < n := by omega
           have hm := pair_met (n := n) ht2 eJ rfl
           conv => whnf
           refine loop_intro (mono_of LSp_ok) (fun x : MtX m z c f0.toNat n r s1.i u0.t j (s0.D s1.i) => (⟨[(1, one (.int .i64 (n : Int))), (5, one (.ptr 0 0 0 false)), (6, one (.os 1 0 n)), (8, one (.ptr 2 0 0 false)), (13, one (.int .i64 (r : Int))), (14, one (.ptr 3 0 0 false)), (19, one (.int .i64 (s1.i : Int))), (112, one (.os 4 0 2)), (113, one (.int .i64 2)), (114, one (.int .i64 (u0.t : Int))), (21, one (.int .i64 (j : Int))), (127, one (slN neC (s0.D s1.i))), (128, one (.int .i64 ((s0.D s1.i).length : Int))), (129, one (.int .i64 (x.p : Int)))], [(0, some (tapeN m (rI z) x.q)), (1, some (nodesE x.N)), (2, some (cntE x.g)), (3, some (saidE s0.D)), (4, some (pairE s1.i))], 5⟩ : Hd)) (fun x => (s0.D s1.i).length - x.p) (fun _ => rfl) ?_ (u0.start j hjn (s0.D s1.i)) [] ⟨rfl, ⟨leF_int rfl, leF_ptr rfl, leF_c (leC_os rfl rfl), leF_ptr rfl, leF_int rfl, leF_ptr rfl, leF_int rfl, leF_c (leC_os rfl rfl), leF_int rfl, leF_int rfl, leF_int rfl, leF_c (leC_slNe zD), leF_int (leI_zD zD), leF_int rfl, trivial⟩, ⟨⟨rfl, tapeN_le⟩, ⟨rfl, nodes_le⟩, ⟨rfl, cnt_le⟩, ⟨rfl, said_le⟩, ⟨rfl, pair_le⟩, trivial⟩⟩
           have hle : (s0.D s1.i).length <= 1 := by rcases hsi.s with e | e <;> rw [e] <;> simp
           have z2 : 0 + (j : Int).toNat = j := Nat.zero_add j
           have z3 : 0 + (s1.i : Int).toNat = s1.i := Nat.zero_add s1.i
           intro x0
           have hN3 := x0.hN
           have htq3 := x0.ht
           by_cases hpl : x0.p < (s0.D s1.i).length
           . have w2 : IntKind.i64.wrap ((x0.p : Int) + 1) = ((x0.p + 1 : Nat) : Int) := (IntWalk.i64_in _ (by omega)).trans (by omega)
             have hZ : s0.D s1.i = [c] := hsi.s.resolve_left (fun e => by have := congrArg List.length e; have h0 : ([] : List Cas).length = 0 := rfl; omega)
             have hp0 : x0.p = 0 := by omega
             have hcp : (s0.D s1.i).getD x0.p default = c := by rw [hp0, hZ]; rfl
             have hq0 := x0.h0 hp0
             have hv3 := p2_valid hMs (by omega) hq0
             have hgj := x0.hg j hjn
             have hcr := cnt_rng (x0.N.getD j [])
             repeat' (first | (simp only [w2, z2]) | (apply And.intro <;> intro hc <;> (first | exact Bool.noConfusion hc | (exfalso; first | exact absurd rfl hc | omega) | (simp only [zb0, ne_eq, not_true_eq_false] at hc <;> first | exact absurd rfl hc | (exfalso; first | exact absurd rfl hc | omega) | skip) | skip)) | (refine And.intro zp1 ?_) | (apply And.intro) | (intro s hs; (first | (obtain ⟨l', b2, e, hp1, hcn⟩ := sp_acc hs (toN_row neS_rd _) ((neC_rd ((s0.D s1.i).getD x0.p default)).trans hcp) rfl hMs (by omega) hm hsi hZ hq0; clear hs; subst e) | (dsimp only at hs) | skip)))
             . exact ⟨rfl, okHs_sl _⟩
             . exact ⟨rfl, okD_sl _⟩
             . exact ⟨Eq.mpr (congrArg LHn (toN_row neS_rd _)) (vl_hn hv3), u32ok _⟩
             . have hb2 : b2 = true := by assumption
               rw [if_pos hb2] at hcn
               have hcr2 := cnt_rng l'
               conv => whnf
               exact ⟨x0.next hpl hjn _ l' (putF x0.g j (cntN l')) hs hp1 putF_at putF_ne, [], by dsimp only [MtX.next]; omega, rfl, ⟨leF_int rfl, leF_ptr rfl, leF_c (leC_os rfl rfl), leF_ptr rfl, leF_int rfl, leF_ptr rfl, leF_int rfl, leF_c (leC_os rfl rfl), leF_int rfl, leF_int rfl, leF_int rfl, leF_c (sh_slN _).le, leF_int rfl, leF_int w2, trivial⟩, ⟨⟨rfl, tapeN_le⟩, ⟨rfl, nodes_set (by omega) (give_S rfl rfl rfl)⟩, ⟨rfl, cnt_put (by omega) (leC_int (by show IntKind.i64.wrap (x0.g (0 + (j : Int).toNat * 1 + 0) + 1) = cntN l'; rw [show x0.g (0 + (j : Int).toNat * 1 + 0) = x0.g j from congrArg x0.g (by omega), IntWalk.i64_in _ (by omega)]; omega))⟩, ⟨rfl, said_le⟩, ⟨rfl, pair_le⟩, trivial⟩⟩
             . have hb2 : b2 = false := by assumption
               rw [if_neg (by rw [hb2]; simp)] at hcn
               conv => whnf
               exact ⟨x0.next hpl hjn _ l' x0.g hs hp1 (by omega) (fun _ _ => rfl), [], by dsimp only [MtX.next]; omega, rfl, ⟨leF_int rfl, leF_ptr rfl, leF_c (leC_os rfl rfl), leF_ptr rfl, leF_int rfl, leF_ptr rfl, leF_int rfl, leF_c (leC_os rfl rfl), leF_int rfl, leF_int rfl, leF_int rfl, leF_c (sh_slN _).le, leF_int rfl, leF_int w2, trivial⟩, ⟨⟨rfl, tapeN_le⟩, ⟨rfl, nodes_set (by omega) (give_S rfl rfl rfl)⟩, ⟨rfl, cnt_le⟩, ⟨rfl, said_le⟩, ⟨rfl, pair_le⟩, trivial⟩⟩
           . have hp2 := x0.last hpl hm hsi
             have hv3 := p2_valid hMs (by omega) hp2
             have hv4 := p2_valid hMs (by omega) (x0.hne s1.i hi1 (met_ne hm))
             repeat' (first | (simp only [z2, z3]) | (apply And.intro <;> intro hc <;> (first | exact Bool.noConfusion hc | (exfalso; first | exact absurd rfl hc | omega) | (simp only [zb0, ne_eq, not_true_eq_false] at hc <;> first | exact absurd rfl hc | (exfalso; first | exact absurd rfl hc | omega) | skip) | skip)) | (refine And.intro zp1 ?_) | (apply And.intro) | (intro s hs; (first | (obtain ⟨S, eS, hSv⟩ := rd_sum hs (toN_row neS_rd _); clear hs; subst eS) | (obtain ⟨l', b2, e, hp1, hcn⟩ := sp_cmp hs (toN_row neS_rd _) rfl hMs (by omega) (sm_row0 hSv) hp2; clear hs; subst e) | (dsimp only at hs) | skip)))
             . exact ⟨rfl, okHs_sl _⟩
             . exact Eq.mpr (congrArg LHn (toN_row neS_rd _)) (vl_hn hv4)
             . exact ⟨rfl, okHs_sl _⟩
             . exact rfl
             . exact ⟨Eq.mpr (congrArg LHn (toN_row neS_rd _)) (vl_hn hv3), sm_len0 hSv, u32ok _⟩
             conv => whnf
             exact ⟨u0.next ht2 hm hjn x0 _ l' hs hp1 hcn, [], by dsimp only [MtT.next]; omega, rfl, ⟨leF_int rfl, leF_ptr rfl, leF_c (leC_os rfl rfl), leF_ptr rfl, leF_int rfl, leF_ptr rfl, leF_int rfl, leF_c (leC_os rfl rfl), leF_int rfl, leF_int w1, trivial⟩, ⟨⟨rfl, tapeN_le⟩, ⟨rfl, nodes_set (by omega) (give_S rfl rfl rfl)⟩, ⟨rfl, cnt_le⟩, ⟨rfl, said_le⟩, ⟨rfl, pair_le⟩, trivial⟩⟩
       . repeat' (first | (simp only [hw]) | (apply And.intro <;> intro hc <;> (first | exact Bool.noConfusion hc | (exfalso; first | exact absurd rfl hc | omega) | (simp only [zb0, ne_eq, not_true_eq_false] at hc <;> first | exact absurd rfl hc | (exfalso; first | exact absurd rfl hc | omega) | skip) | skip)) | (refine And.intro zp1 ?_) | (apply And.intro) | (intro s hs; skip))
         conv => whnf
         exact ⟨s1.next hi1 u0 ht2, [], by dsimp only [MtS.next]; omega, rfl, ⟨leF_int rfl, leF_ptr rfl, leF_c (leC_os rfl rfl), leF_ptr rfl, leF_int rfl, leF_ptr rfl, leF_int ((IntWalk.i64_in _ (by omega)).trans (by show (s1.i : Int) + 1 = ((s1.i + 1 : Nat) : Int); omega)), trivial⟩, ⟨⟨rfl, tapeN_le⟩, ⟨rfl, nodes_le⟩, ⟨rfl, cnt_le⟩, ⟨rfl, said_le⟩, trivial⟩⟩
     . repeat' (first | (simp only [hw]) | (apply And.intro <;> intro hc <;> (first | exact Bool.noConfusion hc | (exfalso; first | exact absurd rfl hc | omega) | (simp only [zb0, ne_eq, not_true_eq_false] at hc <;> first | exact absurd rfl hc | (exfalso; first | exact absurd rfl hc | omega) | skip) | skip)) | (refine And.intro zp1 ?_) | (apply And.intro) | (intro s hs; skip))
       conv => whnf
       exact ⟨s1.end hi1 (by omega) h18, [], by dsimp only [MtS.end]; omega, rfl, ⟨leF_int rfl, leF_ptr rfl, leF_c (leC_os rfl rfl), leF_ptr rfl, leF_int ((IntWalk.i64_in _ (by omega)).trans (by show (r : Int) + 1 = ((r + 1 : Nat) : Int); omega)), trivial⟩, ⟨⟨rfl, tapeN_le⟩, ⟨rfl, nodes_le⟩, ⟨rfl, cnt_le⟩, trivial⟩⟩
 . obtain rfl : r = 18 := by omega
   have hg1 : ∀ j, j < n -> g j = 1 := fun j hj => by rw [hg j hj]; exact p0_last (first := f0.toNat) (by omega) (by omega) (hP j hj)
   repeat' (first | (simp only [hw]) | (apply And.intro <;> intro hc <;> (first | exact Bool.noConfusion hc | (exfalso; first | exact absurd rfl hc | omega) | (simp only [zb0, ne_eq, not_true_eq_false] at hc <;> first | exact absurd rfl hc | (exfalso; first | exact absurd rfl hc | omega) | skip) | skip)) | (refine And.intro zp1 ?_) | (apply And.intro) | (intro s hs; skip))
   conv => whnf
   refine loop_intro (mono_of LSp_ok) (fun i : {i : Nat // i <= n} => (⟨[(1, one (.int .i64 (n : Int))), (8, one (.ptr 2 0 0 false)), (30, one (.int .i64 (i.1 : Int)))], [(2, some (cntE g))], 3⟩ : Hd)) (fun i => n - i.1) (fun _ => rfl) ?_ ⟨0, Nat.zero_le _⟩ [] ⟨rfl, ⟨leF_int rfl, leF_ptr rfl, leF_int rfl, trivial⟩, ⟨⟨rfl, cnt_le⟩, trivial⟩⟩
   rintro ⟨i, hi⟩
   dsimp only at hi ⊢
   by_cases hin : i < n
   . have e1 : g (0 + (i : Int).toNat * 1 + 0) = 1 := hg1 _ (by omega)
     repeat' (first | (simp only [e1]) | (apply And.intro <;> intro hc <;> (first | exact Bool.noConfusion hc | (exfalso; first | exact absurd rfl hc | omega) | (simp only [zb0, ne_eq, not_true_eq_false] at hc <;> first | exact absurd rfl hc | (exfalso; first | exact absurd rfl hc | omega) | skip) | skip)) | (refine And.intro zp1 ?_) | (apply And.intro) | (intro s hs; skip))
     conv => whnf
     exact ⟨⟨i + 1, hin⟩, [], by dsimp only; omega, rfl, ⟨leF_int rfl, leF_ptr rfl, leF_int ((IntWalk.i64_in _ (by omega)).trans (by show (i : Int) + 1 = ((i + 1 : Nat) : Int); omega)), trivial⟩, ⟨⟨rfl, cnt_le⟩, trivial⟩⟩
   . repeat' (first | (simp only [hw]) | (apply And.intro <;> intro hc <;> (first | exact Bool.noConfusion hc | (exfalso; first | exact absurd rfl hc | omega) | (simp only [zb0, ne_eq, not_true_eq_false] at hc <;> first | exact absurd rfl hc | (exfalso; first | exact absurd rfl hc | omega) | skip) | skip)) | (refine And.intro zp1 ?_) | (apply And.intro) | (intro s hs; skip))
     conv => whnf
     exact Done.mk (leF_bool (by assumption))
end Go.Proofs.Ytfaibcgakcmhcaa.AX
namespace Go.Proofs.Ytfaibcgakcmhcaa
open Go.RowKit AX
theorem walkMulticastSpreads (a0 : Option Addr) (len0 cap0 : Nat) (z0 : List Int) (a1 : Int) (w : World) (w0 : IsRow .i64 w a0 len0 cap0 z0) (rr0 : cap0 * 8 <= 140737488351232) (w1 : (Lit.int .i64 a1).wf = true) :
 Calls Try.prog 8 #[.slice a0 len0 cap0, .int .i64 a1] w fun e w' => e = .returned (.bool true) /\ Below w.heap.size w w' :=
 walk_of (spreads_ok len0 z0 (rng_of w0) a1 (by have := wf_i64 w1; omega)) (relL_cons (row_rel w0) (relL1 rfl))
end Go.Proofs.Ytfaibcgakcmhcaa
