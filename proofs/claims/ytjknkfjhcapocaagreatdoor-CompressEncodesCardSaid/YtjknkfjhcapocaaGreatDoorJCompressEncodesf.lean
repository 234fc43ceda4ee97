/- Texts of one's own in one file: CoR, Rd8q, Rd8, CoD, CoT, CoL, Jc, Jd, CqE, CqL, CompressEncodesA, Fp, Wt, CoG, CompressEncodesW. -/
import Derived.Test.YtjknkfjhcapocaaGreatDoorJCompressEncodese
import Derived.Test.YtjknkfjhcapocaaGreatDoorJCompressEncodesd
import Derived.Test.YtjknkfjhcapocaaGreatDoorJCompressEncodesb
import Derived.Test.YtjknkfjhcapocaaGreatDoorJCompressEncodesc
import Derived.SizedLaws
import Derived.ChangeSlices
import Derived.Test.YtjknkfjhcapocaaGreatDoorRows
import Derived.Test.YtjknkfjhcapocaaGreatDoorJCompressEncodesa
import Derived.LaidLaws
import Derived.ChangeArms
import Derived.FnData
import Derived.KernelRfl
set_option linter.unusedVariables false
set_option linter.unusedSimpArgs false
set_option maxHeartbeats 16000000
set_option maxRecDepth 20000
namespace Go.Proofs.YtjknkfjhcapocaaGreatDoor.AX
open Go.RowKit
def LCu : CsL := (89, some uint2E) :: []
theorem LCu_ok : AllOk Tryz.prog LCu := ⟨(LOc2_ok).1, trivial⟩
theorem uint_ok2 {b : List Int} {q n : Int} (hq : 0 <= q) (hn : 1 <= n /\ n <= 8) : (uintF b q n).2 = decide (q + n <= b.length) := by
 unfold uintF
 by_cases h : q + n <= b.length
 . rw [if_pos ⟨hn.1, hn.2, hq, by omega⟩, decide_eq_true h]
 . rw [if_neg (fun g => h (by omega)), decide_eq_false h]
theorem tk_ok (b : List Int) (q n e : Int) (hb : BL b) (hbl : b.length <= 140737488355328) (hq : 0 <= q /\ q <= 100) (hn : 1 <= n /\ n <= 8) : MultOk Tryz.prog 98 [(cI .i64).enc n] 3 (tmN true b q e) ((cI .u64).enc (takeF b q n e).1) (tmN true b (takeF b q n e).2.1 (takeF b q n e).2.2) := by
 refine mult_intro (wd := 1) (Q := mkQ LCu) (by decide) tysOk (q_of LCu_ok) mixed Tryz.func98 rfl [(cI .i64).enc n] (by show 1 + 3 <= _; decide) nff_int (fun k hk => ?_) ?_
 . rcases i3 hk with rfl | rfl | rfl
   . exact fun _ _ _ _ => sl_keep
   . exact fun _ _ _ _ => nf_int
   . exact fun _ _ _ _ => nf_int
 have hu := uint_ok2 (b := b) hq.1 hn
 repeat' (first | (apply And.intro <;> intro hc <;> (first | exact Bool.noConfusion hc | (simp only [zb0, ne_eq, not_true_eq_false] at hc <;> first | exact absurd rfl hc | skip) | skip)) | (refine And.intro zp1 ?_) | (apply And.intro) | (intro s hs; (have q : s = uintF b q n := (hs.trans (by show uintF (toL eB b.length (rowF eB b)) q n = _; rw [toL_b])); clear hs; subst q)))
 . show BL (toL eB b.length (rowF eB b)); rw [toL_b]; exact hb
 . show (toL eB b.length (rowF eB b)).length <= _; rw [toL_b]; exact hbl
 . have hc2 : (uintF b q n).2 = false := by assumption
   rw [hu, decide_eq_false_iff_not] at hc2
   refine ⟨leF_int rfl, fun k hk => ?_⟩
   rcases i3 hk with rfl | rfl | rfl
   . refine leN_var ⟨trivial, ?_⟩
     exact leC_sl (fun _ => rfl) rfl rfl fun i _ j _ => leC_cell rfl
   . refine leN_var ⟨trivial, leC_int ?_⟩
     show IntKind.i64.wrap (q + n) = q + n
     exact IntWalk.i64_in _ (by omega)
   . refine leN_var ⟨trivial, leC_int ?_⟩
     show (4 : Int) = if q + n <= b.length then e else 4
     rw [if_neg hc2]
 . have hc2 : (uintF b q n).2 = true := by assumption
   rw [hu, decide_eq_true_eq] at hc2
   refine ⟨leF_int rfl, fun k hk => ?_⟩
   rcases i3 hk with rfl | rfl | rfl
   . refine leN_var ⟨trivial, ?_⟩
     exact leC_sl (fun _ => rfl) rfl rfl fun i _ j _ => leC_cell rfl
   . refine leN_var ⟨trivial, leC_int ?_⟩
     show IntKind.i64.wrap (q + n) = q + n
     exact IntWalk.i64_in _ (by omega)
   . refine leN_var ⟨trivial, leC_int ?_⟩
     show e = if q + n <= b.length then e else 4
     rw [if_pos hc2]
def LCr : CsL := (98, some tmE) :: []
theorem LCr_ok : AllOk Tryz.prog LCr := ⟨tmE_ok ⟨_, Tryz.func98, rfl, by kernel_rfl⟩ fun b q n e h1 h2 h3 h4 => tk_ok b q n e h1 h2 h3 h4, trivial⟩
abbrev UD := ((Int × Int) × Int × Int) × Int
def encUD (s : UD) : FV := .tup [.c (.int .u16 s.1.1.1), .c (.int .u16 s.1.1.2), .c (.int .u16 s.1.2.1), .c (.int .i64 s.1.2.2), .c (.int .i64 s.2)]
theorem uI_1 {b : List Int} {a : Int} {k : Nat} (e : a = k) (h : k + 1 <= b.length) : (uintF b a 1).1 = gB b k := by
 subst e
 unfold uintF
 rw [if_pos ⟨by decide, by decide, by omega, by omega⟩]
 show beVal ((b.drop (k : Int).toNat).take (1 : Int).toNat) = _
 rw [Int.toNat_natCast, drop_at (show k < b.length by omega)]
 show beVal [b.getD k default] = _
 rw [beVal_1]; rfl
theorem uI_2' {b : List Int} {a : Int} {k : Nat} (e : a = k) (h : k + 2 <= b.length) : (uintF b a 2).1 = gB b k * 256 + gB b (k + 1) := uI_2 e h
theorem ud_short {r : List Int} {k : Int} (h0 : 0 < r.length) (h : gB r 0 = 240 + k) (hk : 0 <= k /\ k <= 3) (hl : r.length < pN k + 3) : udpD r = (((0, 0), 0, 0), 4) := by
 unfold udpD
 rw [if_neg (by omega), if_neg (by omega), if_pos (by rw [h, show 240 + k - 240 = k by omega]; exact hl)]
theorem ud_long {r : List Int} {k : Int} (h : gB r 0 = 240 + k) (hk : 0 <= k /\ k <= 3) (hl : ¬ r.length < pN k + 3) : udpD r = (rdU k r, 0) := by
 have : 0 < r.length := by omega
 unfold udpD
 rw [if_neg (by omega), if_neg (by omega), if_neg (by rw [h, show 240 + k - 240 = k by omega]; exact hl), h, show 240 + k - 240 = k by omega]
theorem ud_bad {r : List Int} (h0 : 0 < r.length) (h : gB r 0 < 240 \/ 243 < gB r 0) : udpD r = (((0, 0), 0, 0), 5) := by
 unfold udpD
 rw [if_neg (by omega), if_pos h]
theorem rdu_0 (t : List Int) (hb : BL (240 :: t)) (hbl : (240 :: t : List Int).length <= 140737488355328) : PureOk Tryz.prog 61 [(cSl eB eB_sz).enc (240 :: t)] (encUD (udpD (240 :: t))) := by
 obtain ⟨W, eW⟩ : ∃ W, udpD (240 :: t) = W := ⟨_, rfl⟩
 rw [eW]
 have hsh : (240 :: t : List Int).length < 7 -> W = (((0, 0), 0, 0), 4) := fun h => eW.symm.trans (ud_short (k := 0) (by simp) rfl (by decide) (by show _ < 7; exact h))
 have hlo : ¬ (240 :: t : List Int).length < 7 -> W = (rdU 0 (240 :: t), 0) := fun h => eW.symm.trans (ud_long (k := 0) rfl (by decide) (by show ¬ _ < 7; exact h))
 have hgr : ∀ i, 0 <= gB (240 :: t) i /\ gB (240 :: t) i < 256 := fun i => gB_r hb i
 obtain ⟨v0, e0, t0, u0, z0⟩ : ∃ v e, takeF (240 :: t) 1 2 0 = (v, 3, e) /\ ((240 :: t : List Int).length ≥ 3 -> v = gB (240 :: t) 1 * 256 + gB (240 :: t) 2) /\ e = if (1 : Int) + 2 <= (240 :: t : List Int).length then 0 else 4 := ⟨_, _, rfl, fun h => uI_2' (k := 1) rfl (by omega), rfl⟩
 obtain ⟨v1, e1, t1, u1, z1⟩ : ∃ v e, takeF (240 :: t) 3 2 e0 = (v, 5, e) /\ ((240 :: t : List Int).length ≥ 5 -> v = gB (240 :: t) 3 * 256 + gB (240 :: t) 4) /\ e = if (3 : Int) + 2 <= (240 :: t : List Int).length then e0 else 4 := ⟨_, _, rfl, fun h => uI_2' (k := 3) rfl (by omega), rfl⟩
 obtain ⟨v2, e2, t2, u2, z2⟩ : ∃ v e, takeF (240 :: t) 5 2 e1 = (v, 7, e) /\ ((240 :: t : List Int).length ≥ 7 -> v = gB (240 :: t) 5 * 256 + gB (240 :: t) 6) /\ e = if (5 : Int) + 2 <= (240 :: t : List Int).length then e1 else 4 := ⟨_, _, rfl, fun h => uI_2' (k := 5) rfl (by omega), rfl⟩
 clear eW
 have g0 : True := trivial
 have g1 : True := trivial
 have g2 : True := trivial
 refine pure_intro (wd := 1) (Q := mkQ LCr) (by decide) tysOk (q_of LCr_ok) mixed Tryz.func61 rfl _ (by show 1 <= _; decide) _ ?_
 repeat' (first | (apply And.intro <;> intro hc <;> (first | exact Bool.noConfusion hc | (exfalso; first | exact absurd hc (by decide) | exact absurd hc (by assumption) | exact absurd (by assumption) hc | exact absurd rfl hc) | (simp only [zb0, ne_eq, not_true_eq_false] at hc <;> first | exact absurd rfl hc | (exfalso; first | exact absurd hc (by decide) | exact absurd hc (by assumption) | exact absurd (by assumption) hc | exact absurd rfl hc) | skip) | skip)) | (refine And.intro zp1 ?_) | (apply And.intro) | (refine Exists.intro (240 :: t) (And.intro ⟨rfl, rfl, by first | exact ⟨⟨hb, hbl⟩, ⟨of_decide_eq_true rfl, of_decide_eq_true rfl⟩, of_decide_eq_true rfl, of_decide_eq_true rfl⟩⟩ ?_)) | (intro s hs; (first | (clear g0; have q : (v0, (3 : Int), e0) = s := (hs.trans t0).symm; clear hs; subst q) | (clear g1; have q : (v1, (5 : Int), e1) = s := (hs.trans t1).symm; clear hs; subst q) | (clear g2; have q : (v2, (7 : Int), e2) = s := (hs.trans t2).symm; clear hs; subst q))))
 all_goals first
  | exact of_decide_eq_true rfl
  | exact Nat.le_of_ble_eq_true rfl
  | skip
 . by_cases h : (240 :: t : List Int).length < 7
   . rw [hsh h]
     have he : e2 = 4 := by rw [z2, if_neg (by omega)]
     exact Done.mk (leF_tup ⟨leC_int rfl, leC_int rfl, leC_int rfl, leC_int rfl, leC_int he, trivial⟩)
   . exfalso
     have he : e2 = 0 := by rw [z2, if_pos (by omega), z1, if_pos (by omega), z0, if_pos (by omega)]
     have hx : ¬ e2 = 0 := by assumption
     exact hx he
 . have h : ¬ (240 :: t : List Int).length < 7 := fun h => by
    have he : e2 = 4 := by rw [z2, if_neg (by omega)]
    have hx : e2 = 0 := by assumption
    omega
   have r1 := hgr 1
   have r2 := hgr 2
   have r3 := hgr 3
   have r4 := hgr 4
   have r5 := hgr 5
   have r6 := hgr 6
   have y0 := u0 (by omega)
   have y1 := u1 (by omega)
   have y2 := u2 (by omega)
   have f0 : IntKind.u16.wrap (IntKind.u64.wrap (v0 + 0)) = gB (240 :: t) 1 * 256 + gB (240 :: t) 2 := by rw [IntWalk.u64_in _ (by omega), IntWalk.u16_in _ (by omega)]; omega
   have f1 : IntKind.u16.wrap (IntKind.u64.wrap (v1 + 0)) = gB (240 :: t) 3 * 256 + gB (240 :: t) 4 := by rw [IntWalk.u64_in _ (by omega), IntWalk.u16_in _ (by omega)]; omega
   have f2 : IntKind.u16.wrap v2 = gB (240 :: t) 5 * 256 + gB (240 :: t) 6 := by rw [IntWalk.u16_in _ (by omega)]; omega
   rw [hlo h]
   exact Done.mk (leF_tup ⟨leC_int f0, leC_int f1, leC_int f2, leC_int rfl, leC_int rfl, trivial⟩)
theorem rdu_1 (t : List Int) (hb : BL (241 :: t)) (hbl : (241 :: t : List Int).length <= 140737488355328) : PureOk Tryz.prog 61 [(cSl eB eB_sz).enc (241 :: t)] (encUD (udpD (241 :: t))) := by
 obtain ⟨W, eW⟩ : ∃ W, udpD (241 :: t) = W := ⟨_, rfl⟩
 rw [eW]
 have hsh : (241 :: t : List Int).length < 6 -> W = (((0, 0), 0, 0), 4) := fun h => eW.symm.trans (ud_short (k := 1) (by simp) rfl (by decide) (by show _ < 6; exact h))
 have hlo : ¬ (241 :: t : List Int).length < 6 -> W = (rdU 1 (241 :: t), 0) := fun h => eW.symm.trans (ud_long (k := 1) rfl (by decide) (by show ¬ _ < 6; exact h))
 have hgr : ∀ i, 0 <= gB (241 :: t) i /\ gB (241 :: t) i < 256 := fun i => gB_r hb i
 obtain ⟨v0, e0, t0, u0, z0⟩ : ∃ v e, takeF (241 :: t) 1 2 0 = (v, 3, e) /\ ((241 :: t : List Int).length ≥ 3 -> v = gB (241 :: t) 1 * 256 + gB (241 :: t) 2) /\ e = if (1 : Int) + 2 <= (241 :: t : List Int).length then 0 else 4 := ⟨_, _, rfl, fun h => uI_2' (k := 1) rfl (by omega), rfl⟩
 obtain ⟨v1, e1, t1, u1, z1⟩ : ∃ v e, takeF (241 :: t) 3 1 e0 = (v, 4, e) /\ ((241 :: t : List Int).length ≥ 4 -> v = gB (241 :: t) 3) /\ e = if (3 : Int) + 1 <= (241 :: t : List Int).length then e0 else 4 := ⟨_, _, rfl, fun h => uI_1 (k := 3) rfl (by omega), rfl⟩
 obtain ⟨v2, e2, t2, u2, z2⟩ : ∃ v e, takeF (241 :: t) 4 2 e1 = (v, 6, e) /\ ((241 :: t : List Int).length ≥ 6 -> v = gB (241 :: t) 4 * 256 + gB (241 :: t) 5) /\ e = if (4 : Int) + 2 <= (241 :: t : List Int).length then e1 else 4 := ⟨_, _, rfl, fun h => uI_2' (k := 4) rfl (by omega), rfl⟩
 clear eW
 have g0 : True := trivial
 have g1 : True := trivial
 have g2 : True := trivial
 refine pure_intro (wd := 1) (Q := mkQ LCr) (by decide) tysOk (q_of LCr_ok) mixed Tryz.func61 rfl _ (by show 1 <= _; decide) _ ?_
 repeat' (first | (apply And.intro <;> intro hc <;> (first | exact Bool.noConfusion hc | (exfalso; first | exact absurd hc (by decide) | exact absurd hc (by assumption) | exact absurd (by assumption) hc | exact absurd rfl hc) | (simp only [zb0, ne_eq, not_true_eq_false] at hc <;> first | exact absurd rfl hc | (exfalso; first | exact absurd hc (by decide) | exact absurd hc (by assumption) | exact absurd (by assumption) hc | exact absurd rfl hc) | skip) | skip)) | (refine And.intro zp1 ?_) | (apply And.intro) | (refine Exists.intro (241 :: t) (And.intro ⟨rfl, rfl, by first | exact ⟨⟨hb, hbl⟩, ⟨of_decide_eq_true rfl, of_decide_eq_true rfl⟩, of_decide_eq_true rfl, of_decide_eq_true rfl⟩⟩ ?_)) | (intro s hs; (first | (clear g0; have q : (v0, (3 : Int), e0) = s := (hs.trans t0).symm; clear hs; subst q) | (clear g1; have q : (v1, (4 : Int), e1) = s := (hs.trans t1).symm; clear hs; subst q) | (clear g2; have q : (v2, (6 : Int), e2) = s := (hs.trans t2).symm; clear hs; subst q))))
 all_goals first
  | exact of_decide_eq_true rfl
  | exact Nat.le_of_ble_eq_true rfl
  | skip
 . by_cases h : (241 :: t : List Int).length < 6
   . rw [hsh h]
     have he : e2 = 4 := by rw [z2, if_neg (by omega)]
     exact Done.mk (leF_tup ⟨leC_int rfl, leC_int rfl, leC_int rfl, leC_int rfl, leC_int he, trivial⟩)
   . exfalso
     have he : e2 = 0 := by rw [z2, if_pos (by omega), z1, if_pos (by omega), z0, if_pos (by omega)]
     have hx : ¬ e2 = 0 := by assumption
     exact hx he
 . have h : ¬ (241 :: t : List Int).length < 6 := fun h => by
    have he : e2 = 4 := by rw [z2, if_neg (by omega)]
    have hx : e2 = 0 := by assumption
    omega
   have r1 := hgr 1
   have r2 := hgr 2
   have r3 := hgr 3
   have r4 := hgr 4
   have r5 := hgr 5
   have r6 := hgr 6
   have y0 := u0 (by omega)
   have y1 := u1 (by omega)
   have y2 := u2 (by omega)
   have f0 : IntKind.u16.wrap (IntKind.u64.wrap (v0 + 0)) = gB (241 :: t) 1 * 256 + gB (241 :: t) 2 := by rw [IntWalk.u64_in _ (by omega), IntWalk.u16_in _ (by omega)]; omega
   have f1 : IntKind.u16.wrap (IntKind.u64.wrap (v1 + 61440)) = 240 * 256 + gB (241 :: t) 3 := by rw [IntWalk.u64_in _ (by omega), IntWalk.u16_in _ (by omega)]; omega
   have f2 : IntKind.u16.wrap v2 = gB (241 :: t) 4 * 256 + gB (241 :: t) 5 := by rw [IntWalk.u16_in _ (by omega)]; omega
   rw [hlo h]
   exact Done.mk (leF_tup ⟨leC_int f0, leC_int f1, leC_int f2, leC_int rfl, leC_int rfl, trivial⟩)
theorem rdu_2 (t : List Int) (hb : BL (242 :: t)) (hbl : (242 :: t : List Int).length <= 140737488355328) : PureOk Tryz.prog 61 [(cSl eB eB_sz).enc (242 :: t)] (encUD (udpD (242 :: t))) := by
 obtain ⟨W, eW⟩ : ∃ W, udpD (242 :: t) = W := ⟨_, rfl⟩
 rw [eW]
 have hsh : (242 :: t : List Int).length < 6 -> W = (((0, 0), 0, 0), 4) := fun h => eW.symm.trans (ud_short (k := 2) (by simp) rfl (by decide) (by show _ < 6; exact h))
 have hlo : ¬ (242 :: t : List Int).length < 6 -> W = (rdU 2 (242 :: t), 0) := fun h => eW.symm.trans (ud_long (k := 2) rfl (by decide) (by show ¬ _ < 6; exact h))
 have hgr : ∀ i, 0 <= gB (242 :: t) i /\ gB (242 :: t) i < 256 := fun i => gB_r hb i
 obtain ⟨v0, e0, t0, u0, z0⟩ : ∃ v e, takeF (242 :: t) 1 1 0 = (v, 2, e) /\ ((242 :: t : List Int).length ≥ 2 -> v = gB (242 :: t) 1) /\ e = if (1 : Int) + 1 <= (242 :: t : List Int).length then 0 else 4 := ⟨_, _, rfl, fun h => uI_1 (k := 1) rfl (by omega), rfl⟩
 obtain ⟨v1, e1, t1, u1, z1⟩ : ∃ v e, takeF (242 :: t) 2 2 e0 = (v, 4, e) /\ ((242 :: t : List Int).length ≥ 4 -> v = gB (242 :: t) 2 * 256 + gB (242 :: t) 3) /\ e = if (2 : Int) + 2 <= (242 :: t : List Int).length then e0 else 4 := ⟨_, _, rfl, fun h => uI_2' (k := 2) rfl (by omega), rfl⟩
 obtain ⟨v2, e2, t2, u2, z2⟩ : ∃ v e, takeF (242 :: t) 4 2 e1 = (v, 6, e) /\ ((242 :: t : List Int).length ≥ 6 -> v = gB (242 :: t) 4 * 256 + gB (242 :: t) 5) /\ e = if (4 : Int) + 2 <= (242 :: t : List Int).length then e1 else 4 := ⟨_, _, rfl, fun h => uI_2' (k := 4) rfl (by omega), rfl⟩
 clear eW
 have g0 : True := trivial
 have g1 : True := trivial
 have g2 : True := trivial
 refine pure_intro (wd := 1) (Q := mkQ LCr) (by decide) tysOk (q_of LCr_ok) mixed Tryz.func61 rfl _ (by show 1 <= _; decide) _ ?_
 repeat' (first | (apply And.intro <;> intro hc <;> (first | exact Bool.noConfusion hc | (exfalso; first | exact absurd hc (by decide) | exact absurd hc (by assumption) | exact absurd (by assumption) hc | exact absurd rfl hc) | (simp only [zb0, ne_eq, not_true_eq_false] at hc <;> first | exact absurd rfl hc | (exfalso; first | exact absurd hc (by decide) | exact absurd hc (by assumption) | exact absurd (by assumption) hc | exact absurd rfl hc) | skip) | skip)) | (refine And.intro zp1 ?_) | (apply And.intro) | (refine Exists.intro (242 :: t) (And.intro ⟨rfl, rfl, by first | exact ⟨⟨hb, hbl⟩, ⟨of_decide_eq_true rfl, of_decide_eq_true rfl⟩, of_decide_eq_true rfl, of_decide_eq_true rfl⟩⟩ ?_)) | (intro s hs; (first | (clear g0; have q : (v0, (2 : Int), e0) = s := (hs.trans t0).symm; clear hs; subst q) | (clear g1; have q : (v1, (4 : Int), e1) = s := (hs.trans t1).symm; clear hs; subst q) | (clear g2; have q : (v2, (6 : Int), e2) = s := (hs.trans t2).symm; clear hs; subst q))))
 all_goals first
  | exact of_decide_eq_true rfl
  | exact Nat.le_of_ble_eq_true rfl
  | skip
 . by_cases h : (242 :: t : List Int).length < 6
   . rw [hsh h]
     have he : e2 = 4 := by rw [z2, if_neg (by omega)]
     exact Done.mk (leF_tup ⟨leC_int rfl, leC_int rfl, leC_int rfl, leC_int rfl, leC_int he, trivial⟩)
   . exfalso
     have he : e2 = 0 := by rw [z2, if_pos (by omega), z1, if_pos (by omega), z0, if_pos (by omega)]
     have hx : ¬ e2 = 0 := by assumption
     exact hx he
 . have h : ¬ (242 :: t : List Int).length < 6 := fun h => by
    have he : e2 = 4 := by rw [z2, if_neg (by omega)]
    have hx : e2 = 0 := by assumption
    omega
   have r1 := hgr 1
   have r2 := hgr 2
   have r3 := hgr 3
   have r4 := hgr 4
   have r5 := hgr 5
   have r6 := hgr 6
   have y0 := u0 (by omega)
   have y1 := u1 (by omega)
   have y2 := u2 (by omega)
   have f0 : IntKind.u16.wrap (IntKind.u64.wrap (v0 + 61440)) = 240 * 256 + gB (242 :: t) 1 := by rw [IntWalk.u64_in _ (by omega), IntWalk.u16_in _ (by omega)]; omega
   have f1 : IntKind.u16.wrap (IntKind.u64.wrap (v1 + 0)) = gB (242 :: t) 2 * 256 + gB (242 :: t) 3 := by rw [IntWalk.u64_in _ (by omega), IntWalk.u16_in _ (by omega)]; omega
   have f2 : IntKind.u16.wrap v2 = gB (242 :: t) 4 * 256 + gB (242 :: t) 5 := by rw [IntWalk.u16_in _ (by omega)]; omega
   rw [hlo h]
   exact Done.mk (leF_tup ⟨leC_int f0, leC_int f1, leC_int f2, leC_int rfl, leC_int rfl, trivial⟩)
theorem rdu_3 (t : List Int) (hb : BL (243 :: t)) (hbl : (243 :: t : List Int).length <= 140737488355328) : PureOk Tryz.prog 61 [(cSl eB eB_sz).enc (243 :: t)] (encUD (udpD (243 :: t))) := by
 obtain ⟨W, eW⟩ : ∃ W, udpD (243 :: t) = W := ⟨_, rfl⟩
 rw [eW]
 have hsh : (243 :: t : List Int).length < 4 -> W = (((0, 0), 0, 0), 4) := fun h => eW.symm.trans (ud_short (k := 3) (by simp) rfl (by decide) (by show _ < 4; exact h))
 have hlo : ¬ (243 :: t : List Int).length < 4 -> W = (rdU 3 (243 :: t), 0) := fun h => eW.symm.trans (ud_long (k := 3) rfl (by decide) (by show ¬ _ < 4; exact h))
 have hgr : ∀ i, 0 <= gB (243 :: t) i /\ gB (243 :: t) i < 256 := fun i => gB_r hb i
 obtain ⟨v0, e0, t0, u0, z0⟩ : ∃ v e, takeF (243 :: t) 1 1 0 = (v, 2, e) /\ ((243 :: t : List Int).length ≥ 2 -> v = gB (243 :: t) 1) /\ e = if (1 : Int) + 1 <= (243 :: t : List Int).length then 0 else 4 := ⟨_, _, rfl, fun h => uI_1 (k := 1) rfl (by omega), rfl⟩
 obtain ⟨v1, e1, t1, u1, z1⟩ : ∃ v e, takeF (243 :: t) 2 2 e0 = (v, 4, e) /\ ((243 :: t : List Int).length ≥ 4 -> v = gB (243 :: t) 2 * 256 + gB (243 :: t) 3) /\ e = if (2 : Int) + 2 <= (243 :: t : List Int).length then e0 else 4 := ⟨_, _, rfl, fun h => uI_2' (k := 2) rfl (by omega), rfl⟩
 clear eW
 have g0 : True := trivial
 have g1 : True := trivial
 refine pure_intro (wd := 1) (Q := mkQ LCr) (by decide) tysOk (q_of LCr_ok) mixed Tryz.func61 rfl _ (by show 1 <= _; decide) _ ?_
 repeat' (first | (apply And.intro <;> intro hc <;> (first | exact Bool.noConfusion hc | (exfalso; first | exact absurd hc (by decide) | exact absurd hc (by assumption) | exact absurd (by assumption) hc | exact absurd rfl hc) | (simp only [zb0, ne_eq, not_true_eq_false] at hc <;> first | exact absurd rfl hc | (exfalso; first | exact absurd hc (by decide) | exact absurd hc (by assumption) | exact absurd (by assumption) hc | exact absurd rfl hc) | skip) | skip)) | (refine And.intro zp1 ?_) | (apply And.intro) | (refine Exists.intro (243 :: t) (And.intro ⟨rfl, rfl, by first | exact ⟨⟨hb, hbl⟩, ⟨of_decide_eq_true rfl, of_decide_eq_true rfl⟩, of_decide_eq_true rfl, of_decide_eq_true rfl⟩⟩ ?_)) | (intro s hs; (first | (clear g0; have q : (v0, (2 : Int), e0) = s := (hs.trans t0).symm; clear hs; subst q) | (clear g1; have q : (v1, (4 : Int), e1) = s := (hs.trans t1).symm; clear hs; subst q))))
 all_goals first
  | exact of_decide_eq_true rfl
  | exact Nat.le_of_ble_eq_true rfl
  | skip
 . by_cases h : (243 :: t : List Int).length < 4
   . rw [hsh h]
     have he : e1 = 4 := by rw [z1, if_neg (by omega)]
     exact Done.mk (leF_tup ⟨leC_int rfl, leC_int rfl, leC_int rfl, leC_int rfl, leC_int he, trivial⟩)
   . exfalso
     have he : e1 = 0 := by rw [z1, if_pos (by omega), z0, if_pos (by omega)]
     have hx : ¬ e1 = 0 := by assumption
     exact hx he
 . have h : ¬ (243 :: t : List Int).length < 4 := fun h => by
    have he : e1 = 4 := by rw [z1, if_neg (by omega)]
    have hx : e1 = 0 := by assumption
    omega
   have r1 := hgr 1
   have r2 := hgr 2
   have r3 := hgr 3
   have r4 := hgr 4
   have r5 := hgr 5
   have r6 := hgr 6
   have y0 := u0 (by omega)
   have y1 := u1 (by omega)
   have d0 : v0.tdiv 16 = v0 / 16 := Int.tdiv_eq_ediv_of_nonneg (by omega)
   have d1 : v0.tmod 16 = v0 % 16 := Int.tmod_eq_emod_of_nonneg (by omega)
   have f0 : IntKind.u16.wrap (IntKind.u64.wrap (61616 + IntKind.u64.wrap (v0.tdiv 16))) = 240 * 256 + (176 + gB (243 :: t) 1 / 16) := by rw [d0, IntWalk.u64_in (v0 / 16) (by omega)]; rw [IntWalk.u64_in _ (by omega), IntWalk.u16_in _ (by omega)]; omega
   have f1 : IntKind.u16.wrap (IntKind.u64.wrap (61616 + v0.tmod 16)) = 240 * 256 + (176 + gB (243 :: t) 1 % 16) := by rw [d1]; rw [IntWalk.u64_in _ (by omega), IntWalk.u16_in _ (by omega)]; omega
   have f2 : IntKind.u16.wrap v1 = gB (243 :: t) 2 * 256 + gB (243 :: t) 3 := by rw [IntWalk.u16_in _ (by omega)]; omega
   rw [hlo h]
   exact Done.mk (leF_tup ⟨leC_int f0, leC_int f1, leC_int f2, leC_int rfl, leC_int rfl, trivial⟩)
theorem rdu_n : PureOk Tryz.prog 61 [(cSl eB eB_sz).enc []] (encUD (udpD [])) := by
 refine pure_intro (wd := 1) (Q := mkQ LCr) (by decide) tysOk (q_of LCr_ok) mixed Tryz.func61 rfl _ (by show 1 <= _; decide) _ ?_
 repeat' (first | (apply And.intro <;> intro hc <;> (first | exact Bool.noConfusion hc | (simp only [zb0] at hc) | skip)) | (refine And.intro zp0 ?_) | (apply And.intro) | (intro s hs))
 all_goals first
  | exact Done.mk (leF_tup ⟨leC_int rfl, leC_int rfl, leC_int rfl, leC_int rfl, leC_int rfl, trivial⟩)
  | skip
theorem rdu_x (x : Int) (t : List Int) (hx : x < 240 \/ 243 < x) : PureOk Tryz.prog 61 [(cSl eB eB_sz).enc (x :: t)] (encUD (udpD (x :: t))) := by
 have e := ud_bad (r := x :: t) (by simp) hx
 rw [e]
 have hl : ¬ ((x :: t : List Int).length : Int) = 0 := by simp only [List.length_cons]; omega
 have hl1 : (0 : Int) < ((x :: t : List Int).length : Int) := by simp only [List.length_cons]; omega
 rcases hx with hx | hx
 . refine pure_intro (wd := 1) (Q := mkQ LCr) (by decide) tysOk (q_of LCr_ok) mixed Tryz.func61 rfl _ (by show 1 <= _; decide) _ ?_
   repeat' (first | (apply And.intro <;> intro hc <;> (first | exact Bool.noConfusion hc | (exfalso; first | exact absurd hc hl | exact absurd hx hc) | (simp only [zb0, ne_eq, not_true_eq_false] at hc <;> first | exact absurd rfl hc | (exfalso; first | exact absurd hc hl | exact absurd hx hc) | skip) | skip)) | (refine And.intro zp1 ?_) | (apply And.intro) | (intro s hs; skip))
   all_goals first
    | exact Done.mk (leF_tup ⟨leC_int rfl, leC_int rfl, leC_int rfl, leC_int rfl, leC_int rfl, trivial⟩)
    | exact Nat.le_of_ble_eq_true rfl
    | skip
 . refine pure_intro (wd := 1) (Q := mkQ LCr) (by decide) tysOk (q_of LCr_ok) mixed Tryz.func61 rfl _ (by show 1 <= _; decide) _ ?_
   repeat' (first | (apply And.intro <;> intro hc <;> (first | exact Bool.noConfusion hc | (exfalso; first | exact absurd hc hl | exact absurd hx hc | (have h2 : x < 240 := hc; exact absurd h2 (by omega))) | (simp only [zb0, ne_eq, not_true_eq_false] at hc <;> first | exact absurd rfl hc | (exfalso; first | exact absurd hc hl | exact absurd hx hc | (have h2 : x < 240 := hc; exact absurd h2 (by omega))) | skip) | skip)) | (refine And.intro zp1 ?_) | (apply And.intro) | (intro s hs; skip))
   all_goals first
    | exact Done.mk (leF_tup ⟨leC_int rfl, leC_int rfl, leC_int rfl, leC_int rfl, leC_int rfl, trivial⟩)
    | exact Nat.le_of_ble_eq_true rfl
    | skip
theorem readUDP_ok (b : List Int) (hb : BL b) (hbl : b.length <= 140737488355328) : PureOk Tryz.prog 61 [(cSl eB eB_sz).enc b] (encUD (udpD b)) := by
 match b, hb, hbl with
 | [], _, _ => exact rdu_n
 | x :: t, hb, hbl =>
   by_cases h : x < 240 \/ 243 < x
   . exact rdu_x x t h
   . have h4 : x = 240 \/ x = 241 \/ x = 242 \/ x = 243 := by omega
     rcases h4 with rfl | rfl | rfl | rfl
     . exact rdu_0 t hb hbl
     . exact rdu_1 t hb hbl
     . exact rdu_2 t hb hbl
     . exact rdu_3 t hb hbl
def finderV (k1 nm k2 : Nat) (f1 f2 : Bool) : CV := .fn 94 0 3 (nth [.ptr k1 0 0 f1, .ptr nm 0 0 false, .ptr k2 0 0 f2])
def idBox (id : Int) : Ent := ⟨3, 1, 1, true, fun _ _ => .int .i64 id⟩
theorem mkf_run (id : Int) (k1 k2 nm wd : Nat) (f1 f2 : Bool) (K : FV -> Hp -> List Nat -> Prop) (h : 4 <= wd) (h1 : k1 < nm) (h2 : k2 < nm) (hK : K (one (finderV k1 nm k2 f1 f2)) [(nm, some (idBox id))] []) : exec T (mkQ LRd3) 1 Tryz.f93.ntmps nm (Tryz.f93.body.getD Code.ret) (argFr [one (.int .i64 id), one (.ptr k1 0 0 f1), one (.ptr k2 0 0 f2)] 0) [] nm (endH T Tryz.f93.results.toList fun x Hf nf => (Nat.ble nf (nm + wd) = true /\ plainH nm Hf = true /\ plainV x = true) /\ K x Hf []) := by
 repeat' (first | (apply And.intro <;> intro hc <;> (first | exact Bool.noConfusion hc | (simp only [zb0] at hc) | skip)) | (refine And.intro zp0 ?_) | (apply And.intro) | (intro s hs))
 . exact Nat.ble_eq_true_of_le (by omega)
 . show (Nat.ble nm nm && true && true) = true
   rw [Nat.ble_eq_true_of_le (Nat.le_refl nm)]
   rfl
 . rfl
 . exact hK
def mkf2E : Entry := fun args _ nm wd =>
 match args with
 | [.e (.c (.int .i64 id)), .e (.c (.ptr k1 0 0 f1)), .e (.c (.ptr k2 0 0 f2))] => bif Nat.blt k1 nm && Nat.blt k2 nm && Nat.ble 4 wd then some fun K => K (one (finderV k1 nm k2 f1 f2)) [(nm, some (idBox id))] [] else none
 | _ => none
theorem mkf2E_ok : EntOk Tryz.prog 93 mkf2E := by
 refine ⟨fun args H nm wd q hwd hq K hK => ?_, fun args H nm wd q hq K K' hKK hK => ?_⟩
 . unfold mkf2E at hq
   split at hq
   . rename_i id k1 f1 k2 f2
     obtain ⟨hb, hq⟩ := cond_some hq
     subst hq
     rw [Bool.and_eq_true, Bool.and_eq_true] at hb
     have b1 : k1 < nm := Nat.le_of_ble_eq_true hb.1.1
     have b2 : k2 < nm := Nat.le_of_ble_eq_true hb.1.2
     have b3 : 4 <= wd := Nat.le_of_ble_eq_true hb.2
     have hall : ([FV.e (.c (.int .i64 id)), .e (.c (.ptr k1 0 0 f1)), .e (.c (.ptr k2 0 0 f2))] : List FV).all (argLt nm) = true := by
      show (true && (Nat.blt k1 nm && (Nat.blt k2 nm && true))) = true
      rw [hb.1.1, hb.1.2]; rfl
     have h5 := mkfE_ok.ok [FV.e (.c (.int .i64 id)), .e (.c (.ptr k1 0 0 f1)), .e (.c (.ptr k2 0 0 f2))] H nm wd
     unfold mkfE inl0E at h5
     rw [hall] at h5
     exact h5 _ hwd rfl K ⟨rfl, mkf_run id k1 k2 nm wd f1 f2 K b3 b1 b2 hK⟩
   . cases hq
 . unfold mkf2E at hq
   split at hq
   . obtain ⟨hb, hq⟩ := cond_some hq
     subst hq
     exact hKK _ _ _ hK
   . cases hq
def LRd5 : CsL := (93, some mkf2E) :: (96, some uniRE) :: (97, some grpRE) :: LRd3
theorem LRd5_ok : AllOk Tryz.prog LRd5 := ⟨mkf2E_ok, rdE_ok ⟨_, Tryz.func96, rfl, by kernel_rfl⟩ (fun r => encRA_flat r) fun b q a h => uniR_ok b q a.1 a.2.1 a.2.2.1 a.2.2.2.1.1 a.2.2.2.1.2.1 a.2.2.2.1.2.2 h.1 h.2.1 h.2.2, rdE_ok ⟨_, Tryz.func97, rfl, by kernel_rfl⟩ (fun r => encRA_flat r) fun b q a h => grpR_ok b q a.1 h.1 h.2, LRd3_ok⟩
theorem dec_ok0 (b : List Int) (f t : Adr) (l : List Ctx) (now : Int) (hb : BL b) (hbl : b.length <= 140737488355328) (hl : bytesL l) (hsk : bits .and .i64 (startF b 0).1.1.2.1 64 = 0 \/ ¬ bits .and .i64 (shrI .i64 (startF b 0).1.1.2.1 4) 3 = 0) : PureOk Tryz.prog 60 [(cSl eB eB_sz).enc b, (cE eAdr).enc f, (cE eAdr).enc t, (cSl eCtx eCtx_sz).enc l, (cI .i64).enc now] (encDec (decI b f t l now)) := by
 have r0 : RdOk b 0 := ⟨hb, hbl, Int.le_refl 0, Int.natCast_nonneg _⟩
 have r1 := startF_r r0
 have r2 := fieldsD_r (x := (startF b 0).1.1.1) r1
 have sv := startF_v (q := 0) hb
 obtain ⟨W, hW⟩ : ∃ W, decI b f t l now = W := ⟨_, rfl⟩
 rw [hW]
 obtain ⟨Ck, eC⟩ : ∃ x, checkF f t l now = x := ⟨_, rfl⟩
 obtain ⟨S, eS⟩ : ∃ x, startF b 0 = x := ⟨_, rfl⟩
 rw [eS] at r1 r2 sv hsk
 obtain ⟨F, eF⟩ : ∃ x, fieldsD b S.1.1.1 S.2 = x := ⟨_, rfl⟩
 rw [eF] at r2
 have e0 : ¬ Ck = 0 -> W = (((zeroH, []), 0), Ck) := fun h => by rw [<- hW]; exact decI_0 eC h
 have e1 : Ck = 0 -> ¬ S.1.2 = 0 -> W = (((zeroH, []), 0), S.1.2) := fun h g => by rw [<- hW]; exact decI_e (eC.trans h) (read_1 eS g) rfl g
 have e2 : Ck = 0 -> S.1.2 = 0 -> ¬ F.1.2 = 0 -> W = (((zeroH, []), 0), F.1.2) := fun h g i => by rw [<- hW]; exact decI_e (eC.trans h) (read_2 eS eF g i) rfl i
 obtain ⟨X, eU⟩ : ∃ x, uniD b (bits .and .i64 S.1.1.2.1 64 != 0) (bits .and .i64 (shrI .i64 S.1.1.2.1 4) 3) f (forDec l (shrI .i64 S.1.1.2.2 4) now) F.2 = x := ⟨_, rfl⟩
 have r3 : RdOk b X.2 := by rw [<- eU]; exact uniD_r r2
 have hX : S.1.2 = 0 -> srcD b S.1.1.2.1 S.1.1.2.2 f l now F.2 = X := fun g => by
  obtain ⟨p1, p2, p3, p4, p5, p6, p7⟩ := raw_of (sv g).y
  obtain ⟨_, _, _, _, _, p8, p9⟩ := raw_of (sv g).ids
  rw [<- eU, p1, p4, p8]
  rw [p4] at hsk
  unfold srcD
  refine if_pos (hsk.imp (fun h => ?_) id)
  rw [<- p1, h]
  rfl
 have rm : S.1.2 = 0 -> (0 <= bits .and .i64 S.1.1.2.1 3 /\ bits .and .i64 S.1.1.2.1 3 <= 3) /\ 0 <= bits .and .i64 (shrI .i64 S.1.1.2.1 4) 3 /\ bits .and .i64 (shrI .i64 S.1.1.2.1 4) 3 <= 3 := fun g => by
  obtain ⟨p1, p2, p3, p4, p5, p6, p7⟩ := raw_of (sv g).y
  rw [p4, p5]
  omega
 obtain ⟨G, eG⟩ : ∃ x, grpD b (bits .and .i64 S.1.1.2.1 3) X.2 = x := ⟨_, rfl⟩
 obtain ⟨D, eD⟩ : ∃ x, uniD b (bits .and .i64 S.1.1.2.1 4 != 0) (bits .and .i64 S.1.1.2.1 3) t (forDec l (bits .and .i64 S.1.1.2.2 15) now) X.2 = x := ⟨_, rfl⟩
 have hG : S.1.2 = 0 -> ¬ bits .and .i64 S.1.1.2.1 8 = 0 -> dstD b S.1.1.2.1 S.1.1.2.2 t l now X.2 = G := fun g k => by
  obtain ⟨p1, p2, p3, p4, p5, p6, p7⟩ := raw_of (sv g).y
  rw [<- eG, p5]
  unfold dstD
  exact if_pos (p3.symm.trans (by simpa using k))
 have hD : S.1.2 = 0 -> bits .and .i64 S.1.1.2.1 8 = 0 -> dstD b S.1.1.2.1 S.1.1.2.2 t l now X.2 = D := fun g k => by
  obtain ⟨p1, p2, p3, p4, p5, p6, p7⟩ := raw_of (sv g).y
  obtain ⟨_, _, _, _, _, p8, p9⟩ := raw_of (sv g).ids
  rw [<- eD, p2, p5, p9]
  unfold dstD
  refine if_neg (fun h => ?_)
  rw [<- p3, k] at h
  cases h
 have e3 : Ck = 0 -> S.1.2 = 0 -> F.1.2 = 0 -> ¬ X.1.2 = 0 -> W = (((zeroH, []), 0), X.1.2) := fun h g i x => by rw [<- hW]; exact decI_e (eC.trans h) (read_3 eS eF (hX g) g i x) rfl x
 have e4G : Ck = 0 -> S.1.2 = 0 -> F.1.2 = 0 -> X.1.2 = 0 -> ¬ bits .and .i64 S.1.1.2.1 8 = 0 -> ¬ G.1.2 = 0 -> W = (((zeroH, []), 0), G.1.2) := fun h g i x k m => by rw [<- hW]; exact decI_e (eC.trans h) (read_4 eS eF (hX g) (hG g k) g i x m) rfl m
 have e5G : Ck = 0 -> S.1.2 = 0 -> F.1.2 = 0 -> X.1.2 = 0 -> ¬ bits .and .i64 S.1.1.2.1 8 = 0 -> G.1.2 = 0 -> W = ((({ F.1.1 with src := X.1.1, dst := G.1.1 }, []), G.2), 0) := fun h g i x k m => by rw [<- hW]; exact decI_v (eC.trans h) (read_5 eS eF (hX g) (hG g k) g i x m)
 have e4D : Ck = 0 -> S.1.2 = 0 -> F.1.2 = 0 -> X.1.2 = 0 -> bits .and .i64 S.1.1.2.1 8 = 0 -> ¬ D.1.2 = 0 -> W = (((zeroH, []), 0), D.1.2) := fun h g i x k m => by rw [<- hW]; exact decI_e (eC.trans h) (read_4 eS eF (hX g) (hD g k) g i x m) rfl m
 have e5D : Ck = 0 -> S.1.2 = 0 -> F.1.2 = 0 -> X.1.2 = 0 -> bits .and .i64 S.1.1.2.1 8 = 0 -> D.1.2 = 0 -> W = ((({ F.1.1 with src := X.1.1, dst := D.1.1 }, []), D.2), 0) := fun h g i x k m => by rw [<- hW]; exact decI_v (eC.trans h) (read_5 eS eF (hX g) (hD g k) g i x m)
 clear hX hG hD hW
 have g1 : True := trivial
 have g2 : True := trivial
 have g3 : True := trivial
 have g4 : True := trivial
 have g5 : True := trivial
 have g6 : True := trivial
 have g7 : True := trivial
 refine pure_intro (wd := 8) (Q := mkQ LRd5) (by decide) tysOk (q_of LRd5_ok) mixed Tryz.func60 rfl _ (by show 5 <= _; decide) _ ?_
 repeat' (first | (apply And.intro <;> intro hc <;> (first | exact Bool.noConfusion hc | (exfalso; first | exact absurd rfl hc | exact absurd hc (by assumption) | exact absurd (by assumption) hc | exact hsk.elim (fun h => absurd h (by assumption)) (fun h => h hc)) | (simp only [zb0, ne_eq, not_true_eq_false] at hc <;> first | exact absurd rfl hc | (exfalso; first | exact absurd rfl hc | exact absurd hc (by assumption) | exact absurd (by assumption) hc | exact hsk.elim (fun h => absurd h (by assumption)) (fun h => h hc)) | skip) | skip)) | (refine And.intro zp1 ?_) | (apply And.intro) | (refine Exists.intro b (And.intro ⟨rfl, rfl, by first | exact r0 | exact ⟨by assumption, (sv (by assumption)).x⟩ | assumption | exact ⟨by assumption, (rm (by assumption)).1⟩ | exact ⟨by assumption, Eq.mp (congrArg bytesL (toL_ctx l).symm) hl, (rm (by assumption)).1⟩ | exact ⟨by assumption, Eq.mp (congrArg bytesL (toL_ctx l).symm) hl, (rm (by assumption)).2⟩⟩ ?_)) | (intro s hs; (first | (clear g1; have q : Ck = s := (hs.trans ((congr (congr (congrArg (fun a b c => checkF a b c now) (rd_adr f)) (rd_adr t)) (toL_ctx l)).trans eC)).symm; clear hs; subst q) | (clear g2; have q : S = s := (hs.trans eS).symm; clear hs; subst q) | (clear g3; have q : F = s := (hs.trans eF).symm; clear hs; subst q) | (clear g4; have q : X = s := (hs.trans ((congr (congrArg (fun k l => uniD b (bits .and .i64 S.1.1.2.1 64 != 0) (bits .and .i64 (shrI .i64 S.1.1.2.1 4) 3) k (forDec l (shrI .i64 S.1.1.2.2 4) now) F.2) (rd_adr f)) (toL_ctx l)).trans eU)).symm; clear hs; subst q) | (clear g5; have q : G = s := (hs.trans eG).symm; clear hs; subst q) | (clear g6; have q : D = s := (hs.trans ((congr (congrArg (fun k l => uniD b (bits .and .i64 S.1.1.2.1 4 != 0) (bits .and .i64 S.1.1.2.1 3) k (forDec l (bits .and .i64 S.1.1.2.2 15) now) X.2) (rd_adr t)) (toL_ctx l)).trans eD)).symm; clear hs; subst q) | skip)))
 all_goals try (first | exact rfl | exact Nat.le_of_ble_eq_true rfl | exact fun _ => rfl)
 all_goals first
  | (show (toL eCtx l.length _).length <= _; rw [toL_len]; have := hl.n; omega)
  | (rw [e0 (by assumption)]
     refine Done.mk (leF_tup ⟨leE_tail rfl (fun j hj => ?_) (leC_nils_sl rfl), leC_int rfl, leC_int rfl, trivial⟩)
     iterate 38 (rcases j with _ | j; exact leC_int rfl)
     exact absurd hj (by show ¬ _ < 38; omega))
  | (rw [e1 (by assumption) (by assumption)]
     refine Done.mk (leF_tup ⟨leE_tail rfl (fun j hj => ?_) (leC_nils_sl rfl), leC_int rfl, leC_int rfl, trivial⟩)
     iterate 38 (rcases j with _ | j; exact leC_int rfl)
     exact absurd hj (by show ¬ _ < 38; omega))
  | (rw [e2 (by assumption) (by assumption) (by assumption)]
     refine Done.mk (leF_tup ⟨leE_tail rfl (fun j hj => ?_) (leC_nils_sl rfl), leC_int rfl, leC_int rfl, trivial⟩)
     iterate 38 (rcases j with _ | j; exact leC_int rfl)
     exact absurd hj (by show ¬ _ < 38; omega))
  | (rw [e3 (by assumption) (by assumption) (by assumption) (by assumption)]
     refine Done.mk (leF_tup ⟨leE_tail rfl (fun j hj => ?_) (leC_nils_sl rfl), leC_int rfl, leC_int rfl, trivial⟩)
     iterate 38 (rcases j with _ | j; exact leC_int rfl)
     exact absurd hj (by show ¬ _ < 38; omega))
  | (rw [e4G (by assumption) (by assumption) (by assumption) (by assumption) (by assumption) (by assumption)]
     refine Done.mk (leF_tup ⟨leE_tail rfl (fun j hj => ?_) (leC_nils_sl rfl), leC_int rfl, leC_int rfl, trivial⟩)
     iterate 38 (rcases j with _ | j; exact leC_int rfl)
     exact absurd hj (by show ¬ _ < 38; omega))
  | (rw [e5G (by assumption) (by assumption) (by assumption) (by assumption) (by assumption) (by assumption)]
     refine Done.mk (leF_tup ⟨leE_tail rfl (fun j hj => ?_) (leC_nils_sl rfl), leC_int rfl, leC_int rfl, trivial⟩)
     iterate 38 (rcases j with _ | j; exact leC_int rfl)
     exact absurd hj (by show ¬ _ < 38; omega))
  | (rw [e4D (by assumption) (by assumption) (by assumption) (by assumption) (by assumption) (by assumption)]
     refine Done.mk (leF_tup ⟨leE_tail rfl (fun j hj => ?_) (leC_nils_sl rfl), leC_int rfl, leC_int rfl, trivial⟩)
     iterate 38 (rcases j with _ | j; exact leC_int rfl)
     exact absurd hj (by show ¬ _ < 38; omega))
  | (rw [e5D (by assumption) (by assumption) (by assumption) (by assumption) (by assumption) (by assumption)]
     refine Done.mk (leF_tup ⟨leE_tail rfl (fun j hj => ?_) (leC_nils_sl rfl), leC_int rfl, leC_int rfl, trivial⟩)
     iterate 38 (rcases j with _ | j; exact leC_int rfl)
     exact absurd hj (by show ¬ _ < 38; omega))
  | skip
theorem dec_ok1 (b : List Int) (f t : Adr) (l : List Ctx) (now : Int) (hb : BL b) (hbl : b.length <= 140737488355328) (hl : bytesL l) (hsk : ¬ bits .and .i64 (startF b 0).1.1.2.1 64 = 0 /\ bits .and .i64 (shrI .i64 (startF b 0).1.1.2.1 4) 3 = 0) : PureOk Tryz.prog 60 [(cSl eB eB_sz).enc b, (cE eAdr).enc f, (cE eAdr).enc t, (cSl eCtx eCtx_sz).enc l, (cI .i64).enc now] (encDec (decI b f t l now)) := by
 have r0 : RdOk b 0 := ⟨hb, hbl, Int.le_refl 0, Int.natCast_nonneg _⟩
 have r1 := startF_r r0
 have r2 := fieldsD_r (x := (startF b 0).1.1.1) r1
 have sv := startF_v (q := 0) hb
 obtain ⟨W, hW⟩ : ∃ W, decI b f t l now = W := ⟨_, rfl⟩
 rw [hW]
 obtain ⟨Ck, eC⟩ : ∃ x, checkF f t l now = x := ⟨_, rfl⟩
 obtain ⟨S, eS⟩ : ∃ x, startF b 0 = x := ⟨_, rfl⟩
 rw [eS] at r1 r2 sv hsk
 obtain ⟨F, eF⟩ : ∃ x, fieldsD b S.1.1.1 S.2 = x := ⟨_, rfl⟩
 rw [eF] at r2
 have e0 : ¬ Ck = 0 -> W = (((zeroH, []), 0), Ck) := fun h => by rw [<- hW]; exact decI_0 eC h
 have e1 : Ck = 0 -> ¬ S.1.2 = 0 -> W = (((zeroH, []), 0), S.1.2) := fun h g => by rw [<- hW]; exact decI_e (eC.trans h) (read_1 eS g) rfl g
 have e2 : Ck = 0 -> S.1.2 = 0 -> ¬ F.1.2 = 0 -> W = (((zeroH, []), 0), F.1.2) := fun h g i => by rw [<- hW]; exact decI_e (eC.trans h) (read_2 eS eF g i) rfl i
 have r3 := r2
 have hs0 : F.1.1.src = zeroA := by rw [<- eF]; exact fieldsD_src b _ _
 have hX : S.1.2 = 0 -> srcD b S.1.1.2.1 S.1.1.2.2 f l now F.2 = ((zeroA, 0), F.2) := fun g => by
  obtain ⟨p1, p2, p3, p4, p5, p6, p7⟩ := raw_of (sv g).y
  rw [p4] at hsk
  unfold srcD
  refine if_neg (fun h => h.elim (fun h => ?_) (fun h => h hsk.2))
  rw [<- p1] at h
  exact hsk.1 (by simpa using h)
 have rm : S.1.2 = 0 -> (0 <= bits .and .i64 S.1.1.2.1 3 /\ bits .and .i64 S.1.1.2.1 3 <= 3) /\ 0 <= bits .and .i64 (shrI .i64 S.1.1.2.1 4) 3 /\ bits .and .i64 (shrI .i64 S.1.1.2.1 4) 3 <= 3 := fun g => by
  obtain ⟨p1, p2, p3, p4, p5, p6, p7⟩ := raw_of (sv g).y
  rw [p4, p5]
  omega
 obtain ⟨G, eG⟩ : ∃ x, grpD b (bits .and .i64 S.1.1.2.1 3) F.2 = x := ⟨_, rfl⟩
 obtain ⟨D, eD⟩ : ∃ x, uniD b (bits .and .i64 S.1.1.2.1 4 != 0) (bits .and .i64 S.1.1.2.1 3) t (forDec l (bits .and .i64 S.1.1.2.2 15) now) F.2 = x := ⟨_, rfl⟩
 have hG : S.1.2 = 0 -> ¬ bits .and .i64 S.1.1.2.1 8 = 0 -> dstD b S.1.1.2.1 S.1.1.2.2 t l now F.2 = G := fun g k => by
  obtain ⟨p1, p2, p3, p4, p5, p6, p7⟩ := raw_of (sv g).y
  rw [<- eG, p5]
  unfold dstD
  exact if_pos (p3.symm.trans (by simpa using k))
 have hD : S.1.2 = 0 -> bits .and .i64 S.1.1.2.1 8 = 0 -> dstD b S.1.1.2.1 S.1.1.2.2 t l now F.2 = D := fun g k => by
  obtain ⟨p1, p2, p3, p4, p5, p6, p7⟩ := raw_of (sv g).y
  obtain ⟨_, _, _, _, _, p8, p9⟩ := raw_of (sv g).ids
  rw [<- eD, p2, p5, p9]
  unfold dstD
  refine if_neg (fun h => ?_)
  rw [<- p3, k] at h
  cases h
 have e4G : Ck = 0 -> S.1.2 = 0 -> F.1.2 = 0 -> ¬ bits .and .i64 S.1.1.2.1 8 = 0 -> ¬ G.1.2 = 0 -> W = (((zeroH, []), 0), G.1.2) := fun h g i k m => by rw [<- hW]; exact decI_e (eC.trans h) (read_4 eS eF (hX g) (hG g k) g i rfl m) rfl m
 have e5G : Ck = 0 -> S.1.2 = 0 -> F.1.2 = 0 -> ¬ bits .and .i64 S.1.1.2.1 8 = 0 -> G.1.2 = 0 -> W = ((({ F.1.1 with src := F.1.1.src, dst := G.1.1 }, []), G.2), 0) := fun h g i k m => by rw [<- hW, hs0]; exact decI_v (eC.trans h) (read_5 eS eF (hX g) (hG g k) g i rfl m)
 have e4D : Ck = 0 -> S.1.2 = 0 -> F.1.2 = 0 -> bits .and .i64 S.1.1.2.1 8 = 0 -> ¬ D.1.2 = 0 -> W = (((zeroH, []), 0), D.1.2) := fun h g i k m => by rw [<- hW]; exact decI_e (eC.trans h) (read_4 eS eF (hX g) (hD g k) g i rfl m) rfl m
 have e5D : Ck = 0 -> S.1.2 = 0 -> F.1.2 = 0 -> bits .and .i64 S.1.1.2.1 8 = 0 -> D.1.2 = 0 -> W = ((({ F.1.1 with src := F.1.1.src, dst := D.1.1 }, []), D.2), 0) := fun h g i k m => by rw [<- hW, hs0]; exact decI_v (eC.trans h) (read_5 eS eF (hX g) (hD g k) g i rfl m)
 clear hX hG hD hW
 have g1 : True := trivial
 have g2 : True := trivial
 have g3 : True := trivial
 have g4 : True := trivial
 have g5 : True := trivial
 have g6 : True := trivial
 have g7 : True := trivial
 refine pure_intro (wd := 8) (Q := mkQ LRd5) (by decide) tysOk (q_of LRd5_ok) mixed Tryz.func60 rfl _ (by show 5 <= _; decide) _ ?_
 repeat' (first | (apply And.intro <;> intro hc <;> (first | exact Bool.noConfusion hc | (exfalso; first | exact absurd rfl hc | exact absurd hc (by assumption) | exact absurd (by assumption) hc | exact absurd hc hsk.1 | exact absurd hsk.2 hc) | (simp only [zb0, ne_eq, not_true_eq_false] at hc <;> first | exact absurd rfl hc | (exfalso; first | exact absurd rfl hc | exact absurd hc (by assumption) | exact absurd (by assumption) hc | exact absurd hc hsk.1 | exact absurd hsk.2 hc) | skip) | skip)) | (refine And.intro zp1 ?_) | (apply And.intro) | (refine Exists.intro b (And.intro ⟨rfl, rfl, by first | exact r0 | exact ⟨by assumption, (sv (by assumption)).x⟩ | assumption | exact ⟨by assumption, (rm (by assumption)).1⟩ | exact ⟨by assumption, Eq.mp (congrArg bytesL (toL_ctx l).symm) hl, (rm (by assumption)).1⟩ | exact ⟨by assumption, Eq.mp (congrArg bytesL (toL_ctx l).symm) hl, (rm (by assumption)).2⟩⟩ ?_)) | (intro s hs; (first | (clear g1; have q : Ck = s := (hs.trans ((congr (congr (congrArg (fun a b c => checkF a b c now) (rd_adr f)) (rd_adr t)) (toL_ctx l)).trans eC)).symm; clear hs; subst q) | (clear g2; have q : S = s := (hs.trans eS).symm; clear hs; subst q) | (clear g3; have q : F = s := (hs.trans eF).symm; clear hs; subst q) | (clear g5; have q : G = s := (hs.trans eG).symm; clear hs; subst q) | (clear g6; have q : D = s := (hs.trans ((congr (congrArg (fun k l => uniD b (bits .and .i64 S.1.1.2.1 4 != 0) (bits .and .i64 S.1.1.2.1 3) k (forDec l (bits .and .i64 S.1.1.2.2 15) now) F.2) (rd_adr t)) (toL_ctx l)).trans eD)).symm; clear hs; subst q) | skip)))
 all_goals try (first | exact rfl | exact Nat.le_of_ble_eq_true rfl | exact fun _ => rfl)
 all_goals first
  | (show (toL eCtx l.length _).length <= _; rw [toL_len]; have := hl.n; omega)
  | (rw [e0 (by assumption)]
     refine Done.mk (leF_tup ⟨leE_tail rfl (fun j hj => ?_) (leC_nils_sl rfl), leC_int rfl, leC_int rfl, trivial⟩)
     iterate 38 (rcases j with _ | j; exact leC_int rfl)
     exact absurd hj (by show ¬ _ < 38; omega))
  | (rw [e1 (by assumption) (by assumption)]
     refine Done.mk (leF_tup ⟨leE_tail rfl (fun j hj => ?_) (leC_nils_sl rfl), leC_int rfl, leC_int rfl, trivial⟩)
     iterate 38 (rcases j with _ | j; exact leC_int rfl)
     exact absurd hj (by show ¬ _ < 38; omega))
  | (rw [e2 (by assumption) (by assumption) (by assumption)]
     refine Done.mk (leF_tup ⟨leE_tail rfl (fun j hj => ?_) (leC_nils_sl rfl), leC_int rfl, leC_int rfl, trivial⟩)
     iterate 38 (rcases j with _ | j; exact leC_int rfl)
     exact absurd hj (by show ¬ _ < 38; omega))
  | (rw [e4G (by assumption) (by assumption) (by assumption) (by assumption) (by assumption)]
     refine Done.mk (leF_tup ⟨leE_tail rfl (fun j hj => ?_) (leC_nils_sl rfl), leC_int rfl, leC_int rfl, trivial⟩)
     iterate 38 (rcases j with _ | j; exact leC_int rfl)
     exact absurd hj (by show ¬ _ < 38; omega))
  | (rw [e5G (by assumption) (by assumption) (by assumption) (by assumption) (by assumption)]
     refine Done.mk (leF_tup ⟨leE_tail rfl (fun j hj => ?_) (leC_nils_sl rfl), leC_int rfl, leC_int rfl, trivial⟩)
     iterate 38 (rcases j with _ | j; exact leC_int rfl)
     exact absurd hj (by show ¬ _ < 38; omega))
  | (rw [e4D (by assumption) (by assumption) (by assumption) (by assumption) (by assumption)]
     refine Done.mk (leF_tup ⟨leE_tail rfl (fun j hj => ?_) (leC_nils_sl rfl), leC_int rfl, leC_int rfl, trivial⟩)
     iterate 38 (rcases j with _ | j; exact leC_int rfl)
     exact absurd hj (by show ¬ _ < 38; omega))
  | (rw [e5D (by assumption) (by assumption) (by assumption) (by assumption) (by assumption)]
     refine Done.mk (leF_tup ⟨leE_tail rfl (fun j hj => ?_) (leC_nils_sl rfl), leC_int rfl, leC_int rfl, trivial⟩)
     iterate 38 (rcases j with _ | j; exact leC_int rfl)
     exact absurd hj (by show ¬ _ < 38; omega))
  | skip
theorem decodeI_ok (b : List Int) (f t : Adr) (l : List Ctx) (now : Int) (hb : BL b) (hbl : b.length <= 140737488355328) (hl : bytesL l) : PureOk Tryz.prog 60 [(cSl eB eB_sz).enc b, (cE eAdr).enc f, (cE eAdr).enc t, (cSl eCtx eCtx_sz).enc l, (cI .i64).enc now] (encDec (decI b f t l now)) := by
 by_cases h : ¬ bits .and .i64 (startF b 0).1.1.2.1 64 = 0 /\ bits .and .i64 (shrI .i64 (startF b 0).1.1.2.1 4) 3 = 0
 . exact dec_ok1 b f t l now hb hbl hl h
 . refine dec_ok0 b f t l now hb hbl hl ?_
   by_cases h1 : bits .and .i64 (startF b 0).1.1.2.1 64 = 0
   . exact .inl h1
   . exact .inr fun h2 => h ⟨h1, h2⟩
abbrev decIE : Entry := pureE (AC.cons (cSl eB eB_sz) (AC.cons (cE eAdr) (AC.cons (cE eAdr) (AC.cons (cSl eCtx eCtx_sz) (AC.cons (cI .i64) AC.nil))))) (fun a => BL a.1 /\ a.1.length <= 140737488355328 /\ bytesL a.2.2.2.1) (fun a => decI a.1 a.2.1 a.2.2.1 a.2.2.2.1 a.2.2.2.2.1) encDec
theorem decIE_ok : EntOk Tryz.prog 60 decIE := pureE_ok ⟨_, Tryz.func60, rfl, by kernel_rfl⟩ fun a h => decodeI_ok a.1 a.2.1 a.2.2.1 a.2.2.2.1 a.2.2.2.2.1 h.1 h.2.1 h.2.2
abbrev udE : Entry := pureE (AC.cons (cSl eB eB_sz) AC.nil) (fun a => BL a.1 /\ a.1.length <= 140737488355328) (fun a => udpD a.1) encUD
def LCd : CsL := (59, some decE) :: (60, some decIE) :: (61, some udE) :: (62, some sizeE) :: (63, some sumE) :: []
theorem LCd_ok : AllOk Tryz.prog LCd := ⟨pureE_ok ⟨_, Tryz.func59, rfl, by kernel_rfl⟩ fun a h => pdecode_ok a.1 h.1 h.2, decIE_ok, pureE_ok ⟨_, Tryz.func61, rfl, by kernel_rfl⟩ fun a h => readUDP_ok a.1 h.1 h.2, pureE_ok ⟨_, Tryz.func62, rfl, by kernel_rfl⟩ fun a h => size_ok a.1 h, pureE_ok ⟨_, Tryz.func63, rfl, by kernel_rfl⟩ fun a h => psum_ok a.1 h.1 h.2, trivial⟩
theorem decI_pay' (b : List Int) (f t : Adr) (l : List Ctx) (now : Int) : (decI b f t l now).1.1.2 = [] := by
 unfold decI
 split
 . rfl
 . split <;> rfl
theorem fin_3 {p : Pkt} {m : Int} (h : 1280 < sizeP p) : finC p m = (pk0, 3) := if_pos h
theorem fin_6 {p : Pkt} {m : Int} (h : ¬ 1280 < sizeP p) (hu : p.1.nxt = 17) (hm : ¬ m = sumP p) : finC p m = (pk0, 6) := by unfold finC; rw [if_neg h, if_pos ⟨hu, hm⟩]
theorem fin_0 {p : Pkt} {m : Int} (h : ¬ 1280 < sizeP p) (hm : p.1.nxt = 17 -> m = sumP p) : finC p m = (p, 0) := by unfold finC; rw [if_neg h, if_neg (fun g => g.2 (hm g.1))]
theorem restU {h : Hdr} {r : List Int} (hu : h.nxt = 17) {U : ((Int × Int) × Int × Int) × Int} (eU : udpD r = U) (h0 : U.2 = 0) : restC h r = finC ({ h with sp := U.1.1.1, dp := U.1.1.2 }, r.drop U.1.2.2.toNat) U.1.2.1 := by
 subst eU
 unfold restC
 rw [if_pos hu, if_pos h0]
theorem restU' {h : Hdr} {r : List Int} (hu : h.nxt = 17) {U : ((Int × Int) × Int × Int) × Int} (eU : udpD r = U) (h0 : ¬ U.2 = 0) : restC h r = (pk0, U.2) := by
 subst eU
 unfold restC
 rw [if_pos hu, if_neg h0]
theorem restN {h : Hdr} {r : List Int} (hu : ¬ h.nxt = 17) : restC h r = finC (h, r) 0 := if_neg hu
theorem decC_1 {b : List Int} {f t : Adr} {l : List Ctx} {now : Int} (h : ¬ b.length = 0) (h1 : gB b 0 = 65) : decC b f t l now = decF (b.drop 1) := by unfold decC; rw [if_neg h, if_pos h1]
theorem decC_2 {b : List Int} {f t : Adr} {l : List Ctx} {now : Int} (h : ¬ b.length = 0) (h1 : ¬ gB b 0 = 65) {D : (Pkt × Int) × Int} (eD : decI b f t l now = D) (h2 : ¬ D.2 = 0) : decC b f t l now = (pk0, D.2) := by subst eD; unfold decC; rw [if_neg h, if_neg h1, if_neg h2]
theorem decC_3 {b : List Int} {f t : Adr} {l : List Ctx} {now : Int} (h : ¬ b.length = 0) (h1 : ¬ gB b 0 = 65) {D : (Pkt × Int) × Int} (eD : decI b f t l now = D) (h2 : D.2 = 0) : decC b f t l now = restC D.1.1.1 (b.drop D.1.2.toNat) := by subst eD; unfold decC; rw [if_neg h, if_neg h1, if_pos h2]
theorem toL_drd (b : List Int) (a n : Nat) (h1 : a <= b.length) (h2 : n <= b.length - a) : (toL eB (b.length - a - n) fun i => rowF eB b (a + (n + i))) = (b.drop a).drop n := by
 have e : (fun i => rowF eB b (a + (n + i))) = fun i => rowF eB b (a + n + i) := by funext i; rw [Nat.add_assoc]
 rw [e, Nat.sub_sub, toL_dr b (a + n) (by omega), List.drop_drop]
theorem isRow_od {z : Nat -> Nat -> CV} {m : Nat} {b : List Int} {a : Nat} (hn : b.length - a <= m) : IsRow (fun k j => ovE z 0 m (fun i => rowF eB b (a + i)) (0 + k) j) (b.drop a) :=
 isRow_ov (by rw [List.length_drop]; omega) fun k hk => by
  show CV.int .u8 (b.getD (a + k) default) = _
  rw [List.getD_eq_getElem?_getD, List.getD_eq_getElem?_getD, List.getElem?_drop]
theorem isRow_odd {z : Nat -> Nat -> CV} {m : Nat} {b : List Int} {a n : Nat} (hn : b.length - a - n <= m) : IsRow (fun k j => ovE z 0 m (fun i => (fun i => rowF eB b (a + i)) (n + i)) (0 + k) j) ((b.drop a).drop n) :=
 isRow_ov (by rw [List.length_drop, List.length_drop]; omega) fun k hk => by
  show CV.int .u8 (b.getD (a + (n + k)) default) = _
  rw [List.getD_eq_getElem?_getD, List.getD_eq_getElem?_getD, List.getElem?_drop, List.getElem?_drop]
theorem cdec_ok (b : List Int) (f t : Adr) (l : List Ctx) (now : Int) (hb : BL b) (hbl : b.length <= 140737488355328) (hl : bytesL l) : PureOk Tryz.prog 35 [(cSl eB eB_sz).enc b, (cE eAdr).enc f, (cE eAdr).enc t, (cSl eCtx eCtx_sz).enc l, (cI .i64).enc now] (encPE (decC b f t l now)) := by
 obtain ⟨W, eW⟩ : ∃ W, decC b f t l now = W := ⟨_, rfl⟩
 rw [eW]
 obtain ⟨hH, hlo, hhi⟩ := decI_w (f := f) (t := t) (now := now) hb hbl hl
 have hpay := decI_pay' b f t l now
 obtain ⟨D, eD⟩ : ∃ D, decI b f t l now = D := ⟨_, rfl⟩
 rw [eD] at hH hlo hhi hpay
 have e0 : b.length = 0 -> W = (pk0, 4) := fun h => by rw [<- eW]; exact if_pos h
 have e1 : ¬ b.length = 0 -> gB b 0 = 65 -> W = decF (b.drop 1) := fun h g => by rw [<- eW]; exact decC_1 h g
 have e2 : ¬ b.length = 0 -> ¬ gB b 0 = 65 -> ¬ D.2 = 0 -> W = (pk0, D.2) := fun h g i => by rw [<- eW]; exact decC_2 h g eD i
 have e3 : ¬ b.length = 0 -> ¬ gB b 0 = 65 -> D.2 = 0 -> W = restC D.1.1.1 (b.drop D.1.2.toNat) := fun h g i => by rw [<- eW]; exact decC_3 h g eD i
 obtain ⟨R, eR⟩ : ∃ R, b.drop D.1.2.toNat = R := ⟨_, rfl⟩
 have hR : BL R := by rw [<- eR]; exact hb.drop _
 have hRl : R.length = b.length - D.1.2.toNat := by rw [<- eR]; exact List.length_drop ..
 have hU := udpD_w hR
 have hn := udpD_n hR
 obtain ⟨U, eU⟩ : ∃ U, udpD R = U := ⟨_, rfl⟩
 rw [eU] at hU hn
 have rowR := toL_dr b D.1.2.toNat (by omega)
 rw [eR] at rowR e3
 obtain ⟨Z, eZ⟩ : ∃ Z, decF (b.drop 1) = Z := ⟨_, rfl⟩
 rw [eZ] at e1
 have row1 : 1 <= b.length -> (toL eB (b.length - 1) fun i => rowF eB b (1 + i)) = b.drop 1 := fun h => toL_dr b 1 h
 clear eW
 have g1 : True := trivial
 have g2 : True := trivial
 have g3 : True := trivial
 have g4 : True := trivial
 refine pure_intro (wd := 1) (Q := mkQ LCd) (by decide) tysOk (q_of LCd_ok) mixed Tryz.func35 rfl _ (by show 5 <= _; decide) _ ?_
 repeat' (first | (apply And.intro <;> intro hc <;> (first | exact Bool.noConfusion hc | (exfalso; first | exact absurd hc (by assumption) | exact absurd (by assumption) hc) | (simp only [zb0, ne_eq, not_true_eq_false] at hc <;> first | exact absurd rfl hc | (exfalso; first | exact absurd hc (by assumption) | exact absurd (by assumption) hc) | skip) | skip)) | (refine And.intro zp1 ?_) | (apply And.intro) | (intro s hs; (first | (clear g1; have q : D = s := (hs.trans ((congr (congr (congr (congrArg (fun b x y l => decI b x y l now) (toL_b b)) (rd_adr f)) (rd_adr t)) (toL_ctx l)).trans eD)).symm; clear hs; subst q) | (clear g2; have q : Z = s := (hs.trans ((congrArg decF (row1 (by omega))).trans eZ)).symm; clear hs; subst q) | (clear g3; have q : U = s := (hs.trans ((congrArg udpD rowR).trans eU)).symm; clear hs; subst q) | skip)))
 . rw [e0 (by omega)]
   refine Done.mk (leF_tup ⟨leE_tail rfl (fun j hj => ?_) (leC_nils_sl rfl), leC_int rfl, trivial⟩)
   iterate 38 (rcases j with _ | j; exact leC_int rfl)
   exact absurd hj (by show ¬ _ < 38; omega)
 . show BL (toL eB (b.length - 1) fun i => rowF eB b (1 + i))
   rw [row1 (by omega)]; exact hb.drop 1
 . show (toL eB (b.length - 1) fun i => rowF eB b (1 + i)).length <= _
   rw [toL_len]; omega
 . rw [e1 (by omega) (by assumption)]
   refine Done.mk (leF_tup ⟨leE_tail rfl (fun j hj => ?_) ?_, leC_int rfl, trivial⟩)
   . iterate 38 (rcases j with _ | j; exact leC_int rfl)
     exact absurd hj (by show ¬ _ < 38; omega)
   . exact leC_sl (fun _ => rfl) rfl rfl fun i _ j _ => leC_cell rfl
 . exact fun _ => rfl
 . exact fun _ => rfl
 . show BL (toL eB b.length (rowF eB b)); rw [toL_b]; exact hb
 . show (toL eB b.length (rowF eB b)).length <= _; rw [toL_b]; exact hbl
 . show bytesL (toL eCtx l.length (rowF eCtx l)); rw [toL_ctx]; exact hl
 . rw [e2 (by omega) (by assumption) (by assumption)]
   refine Done.mk (leF_tup ⟨leE_tail rfl (fun j hj => ?_) (leC_nils_sl rfl), leC_int rfl, trivial⟩)
   iterate 38 (rcases j with _ | j; exact leC_int rfl)
   exact absurd hj (by show ¬ _ < 38; omega)
 . show BL (toL eB (b.length - D.1.2.toNat) fun i => rowF eB b (D.1.2.toNat + i)); rw [rowR]; exact hR
 . show (toL eB (b.length - D.1.2.toNat) fun i => rowF eB b (D.1.2.toNat + i)).length <= _; rw [rowR]; omega
 . rw [e3 (by omega) (by assumption) (by assumption), restU' (by assumption) eU (by assumption)]
   refine Done.mk (leF_tup ⟨leE_tail rfl (fun j hj => ?_) (leC_nils_sl rfl), leC_int rfl, trivial⟩)
   iterate 38 (rcases j with _ | j; exact leC_int rfl)
   exact absurd hj (by show ¬ _ < 38; omega)
 . obtain ⟨hn1, hn2⟩ := hn (by assumption)
   show (toL eB (b.length - D.1.2.toNat - U.1.2.2.toNat) fun i => rowF eB b (D.1.2.toNat + (U.1.2.2.toNat + i))).length <= _
   rw [toL_len]; omega
 . obtain ⟨hn1, hn2⟩ := hn (by assumption)
   have rowQ := toL_drd b D.1.2.toNat U.1.2.2.toNat (by omega) (by omega)
   rw [eR] at rowQ
   have q := hs.trans (congrArg sizeP (pk_is (h := { D.1.1.1 with sp := U.1.1.1, dp := U.1.1.2 }) (l := R.drop U.1.2.2.toNat) (fun j hj => (by (iterate 38 (rcases j with _ | j; exact rfl)); exact absurd hj (by omega))) rowQ))
   rw [e3 (by omega) (by assumption) (by assumption), restU (by assumption) eU (by assumption), fin_3 (by rw [<- q]; assumption)]
   refine Done.mk (leF_tup ⟨leE_tail rfl (fun j hj => ?_) (leC_nils_sl rfl), leC_int rfl, trivial⟩)
   iterate 38 (rcases j with _ | j; exact leC_int rfl)
   exact absurd hj (by show ¬ _ < 38; omega)
 . obtain ⟨hn1, hn2⟩ := hn (by assumption)
   have rowQ := toL_drd b D.1.2.toNat U.1.2.2.toNat (by omega) (by omega)
   rw [eR] at rowQ
   refine Eq.mp (congrArg PkW (pk_is (h := { D.1.1.1 with sp := U.1.1.1, dp := U.1.1.2 }) (l := R.drop U.1.2.2.toNat) (fun j hj => (by (iterate 38 (rcases j with _ | j; exact rfl)); exact absurd hj (by omega))) rowQ).symm) ?_
   exact pkw_of hH (hR.drop _) hU.1 hU.2.1
 . obtain ⟨hn1, hn2⟩ := hn (by assumption)
   show (toL eB (b.length - D.1.2.toNat - U.1.2.2.toNat) fun i => rowF eB b (D.1.2.toNat + (U.1.2.2.toNat + i))).length <= _
   rw [toL_len]; omega
 . obtain ⟨hn1, hn2⟩ := hn (by assumption)
   rename_i z hz hc1 hc2
   have hy := hs
   have hc3 := hc
   have rowQ := toL_drd b D.1.2.toNat U.1.2.2.toNat (by omega) (by omega)
   rw [eR] at rowQ
   have q := hz.trans (congrArg sizeP (pk_is (h := { D.1.1.1 with sp := U.1.1.1, dp := U.1.1.2 }) (l := R.drop U.1.2.2.toNat) (fun j hj => (by (iterate 38 (rcases j with _ | j; exact rfl)); exact absurd hj (by omega))) rowQ))
   have q2 := hy.trans (congrArg sumP (pk_is (h := { D.1.1.1 with sp := U.1.1.1, dp := U.1.1.2 }) (l := R.drop U.1.2.2.toNat) (fun j hj => (by (iterate 38 (rcases j with _ | j; exact rfl)); exact absurd hj (by omega))) rowQ))
   rw [e3 (by omega) (by assumption) (by assumption), restU (by assumption) eU (by assumption), fin_6 (by rw [<- q]; exact hc1) (by assumption) (by rw [<- q2]; exact hc3)]
   refine Done.mk (leF_tup ⟨leE_tail rfl (fun j hj => ?_) (leC_nils_sl rfl), leC_int rfl, trivial⟩)
   iterate 38 (rcases j with _ | j; exact leC_int rfl)
   exact absurd hj (by show ¬ _ < 38; omega)
 . obtain ⟨hn1, hn2⟩ := hn (by assumption)
   rename_i z hz hc1 hc2
   have hy := hs
   have hc3 := hc
   have rowQ := toL_drd b D.1.2.toNat U.1.2.2.toNat (by omega) (by omega)
   rw [eR] at rowQ
   have q := hz.trans (congrArg sizeP (pk_is (h := { D.1.1.1 with sp := U.1.1.1, dp := U.1.1.2 }) (l := R.drop U.1.2.2.toNat) (fun j hj => (by (iterate 38 (rcases j with _ | j; exact rfl)); exact absurd hj (by omega))) rowQ))
   have q2 := hy.trans (congrArg sumP (pk_is (h := { D.1.1.1 with sp := U.1.1.1, dp := U.1.1.2 }) (l := R.drop U.1.2.2.toNat) (fun j hj => (by (iterate 38 (rcases j with _ | j; exact rfl)); exact absurd hj (by omega))) rowQ))
   rw [e3 (by omega) (by assumption) (by assumption), restU (by assumption) eU (by assumption), fin_0 (by rw [<- q]; exact hc1) (fun _ => by rw [<- q2]; exact hc3), <- eR]
   refine Done.mk (leF_tup ⟨leE_tail rfl (fun j hj => ?_) (leC_os_is (l := (b.drop D.1.2.toNat).drop U.1.2.2.toNat) rfl rfl rfl ?_ ?_ ?_), leC_int rfl, trivial⟩)
   . iterate 38 (rcases j with _ | j; exact leC_int rfl)
     exact absurd hj (by show ¬ _ < 38; omega)
   . rw [List.length_drop, List.length_drop]; omega
   . show _ <= _; dsimp only; omega
   . dsimp only
     refine isRow_odd ?_
     exact min_ge (by omega) (by omega)
 . show (toL eB (b.length - D.1.2.toNat) fun i => rowF eB b (D.1.2.toNat + i)).length <= _; rw [rowR]; omega
 . have q := hs.trans (congrArg sizeP (pk_is (h := D.1.1.1) (l := R) (fun j hj => (by (iterate 38 (rcases j with _ | j; exact rfl)); exact absurd hj (by omega))) rowR))
   rw [e3 (by omega) (by assumption) (by assumption), restN (by assumption), fin_3 (by rw [<- q]; assumption)]
   refine Done.mk (leF_tup ⟨leE_tail rfl (fun j hj => ?_) (leC_nils_sl rfl), leC_int rfl, trivial⟩)
   iterate 38 (rcases j with _ | j; exact leC_int rfl)
   exact absurd hj (by show ¬ _ < 38; omega)
 . rename_i hc1 hc2
   have hz := hs
   have q := hz.trans (congrArg sizeP (pk_is (h := D.1.1.1) (l := R) (fun j hj => (by (iterate 38 (rcases j with _ | j; exact rfl)); exact absurd hj (by omega))) rowR))
   rw [e3 (by omega) (by assumption) (by assumption), restN (by assumption), fin_0 (by rw [<- q]; exact hc1) (fun h => absurd h (by assumption)), <- eR]
   refine Done.mk (leF_tup ⟨leE_tail rfl (fun j hj => ?_) (leC_os_is (l := b.drop D.1.2.toNat) rfl rfl rfl ?_ ?_ ?_), leC_int rfl, trivial⟩)
   . iterate 38 (rcases j with _ | j; exact leC_int rfl)
     exact absurd hj (by show ¬ _ < 38; omega)
   . rw [List.length_drop]; omega
   . show _ <= _; dsimp only; omega
   . dsimp only
     refine isRow_od ?_
     exact min_ge (by omega) (by omega)
def cSlT {α : Type} [Inhabited α] (E : Elem α) : Codec (List α) where
 enc l := .e (.c (.sl true l.length E.sz (rowF E l)))
 dec H x := match x with
  | .e (.c (.sl true n s f)) => bif Nat.beq s E.sz then some (toL E n f, some (∀ i, i < n -> E.ok (f i) = true), []) else none
  | _ => none
 sound H H' x a p rd h hp hh := by
  split at h
  . rename_i n s f
    obtain ⟨hb, h⟩ := cond_some h
    injection h with h1 h2
    injection h2 with h2 h3
    subst h1 h2 h3
    have hok : ∀ i, i < n -> E.ok (f i) = true := hp
    have hsE : s = E.sz := Nat.eq_of_beq_eq_true hb
    subst hsE
    rintro cx r w v st ⟨a, cap, rfl, c1, c2⟩
    show CV.rel (fun _ => none) (fun b => cx.X b \/ wr r H' b) (wrBut r H' []) w (.sl true (toL E n f).length E.sz (rowF E (toL E n f))) (.slice a n cap)
    rw [toL_len]
    refine ⟨a, cap, rfl, c1, fun h0 => ?_⟩
    obtain ⟨ad, rfl, hs, ho, hX, hlt, hc⟩ := c2 h0
    refine ⟨ad, rfl, hs, fun ⟨k, e, x, q1, q2, q3, _⟩ => ho ⟨k, e, x, q1, q2, q3⟩, fun _ h => h.elim (hX rfl) ho, hlt, fun i hi j hj => ?_⟩
    obtain ⟨u, hu, hr⟩ := hc i hi j hj
    refine ⟨u, hu, ?_⟩
    have key : rowF E (toL E n f) i j = f i j := by
     unfold rowF
     rw [toL_get hi]
     exact (E.ok_eq _ (hok i hi) j hj).symm
    rw [<- key] at hr
    exact E.flat _ _ _ _ _ _ _ _ _ _ _ hr
  . cases h
structure TokD {α : Type} (E : Elem α) (a : α) (i n : Nat) (x : FV) : Prop where
 ex : ∃ g, x = .e (.agg (E.sz + 1) g) /\ (∀ j, j < E.sz -> g j = E.cell a j) /\ g E.sz = .os 0 i n
theorem callR_tok {P : Program} {T : Tys} {Q : Qs} {wi : Nat} (hwi : 0 < wi) (hT : TysOk P T) (hQ : QsOk P Q) (hm : P.follows .mixedOrders = true) {f : FuncId} {fn : Func} {c : Code} (hf : P.funcs[f]? = some fn) (hb : fn.body = some c) (hnm : (fn.name == "runtime.NumGoroutine") = false)
 {pre : List FV} (hpre : ∀ x ∈ pre, ∃ y, x = .e (.c y) /\ FlatC y) (hn : pre.length + 1 <= fn.ntmps) {α : Type} {E : Elem α} {a : α} {i n k : Nat} {H : Hp} {nm wd : Nat}
 (h : exec T Q wi fn.ntmps 1 c (argFr (pre ++ [.e (.c (.os 0 i n))]) 0) [] 1 (endH T fn.results.toList fun x _ _ => TokD E a i n x)) :
 CallR P f (pre ++ [.e (.c (.os k i n))]) H nm wd ⟨none, .e (.agg (E.sz + 1) (tailC E a (.os k i n))), [], []⟩ := by
 refine ⟨⟨fn, hf, by rw [hb]; rfl, hnm⟩, fun H' hh cx r w vals st hfr hw hrel => ?_⟩
 have hG : GlobOk (fun b => False \/ (∃ y, r k = some y /\ y.b = b) \/ False) w := glob_more (gl_in st) fun p _ h => h.elim False.elim fun h => h.elim (fun ⟨y, h1, h2⟩ => .inr (.inl ⟨k, y, h1, h2⟩)) False.elim
 have r2 : ∀ j y, (if j = 0 then r k else none) = some y -> j = 0 /\ r k = some y := fun j y h => by
  by_cases hj : j = 0
  . rw [if_pos hj] at h; exact ⟨hj, h⟩
  . rw [if_neg hj] at h; cases h
 refine (fn_run (np := 1) (cx := ⟨w, fun b => ∃ y, r k = some y /\ y.b = b, fun _ => False, fun _ => False, fun j => if j = 0 then r k else none⟩) (r := fun j => if j = 0 then r k else none) (H0 := []) hwi hT hQ hm hf hb (args := pre ++ [.e (.c (.os 0 i n))]) (by rw [List.length_append]; exact hn) h (fun j b hj => by have := (r2 j b hj).1; omega)
  ⟨rfl, rfl, rfl, Nat.le_refl _, fun _ _ _ => rfl, ⟨fun b hb => hb.elim, hG⟩, fun j y hj => ?_, (fun j e y he _ => by cases he), (fun n m e1 e2 y z h => by cases h), fun j b hj => hj, (fun j e he => by cases he)⟩ ⟨by rw [hrel.1, List.length_append, List.length_append]; rfl, fun q y u hy hu => ?_⟩ (fun j hj => ⟨if_neg (by omega), rfl⟩)).mono fun e w' he => ?_
 . obtain ⟨_, hk⟩ := r2 j y hj
   exact ⟨(st.dom k y hk).1, .inr ⟨y, hk, rfl⟩, fun h => h⟩
 . by_cases hq : q < pre.length
   . rw [List.getElem?_append_left hq] at hy
     obtain ⟨z, rfl, hz⟩ := hpre y (List.mem_of_getElem? hy)
     exact hz _ _ _ _ _ _ _ _ _ (hrel.2 q (.e (.c z)) u (by rw [List.getElem?_append_left hq]; exact hy) hu : z.rel r cx.X (wr r H') w u)
   . have hq2 : q = pre.length := by
      have := (List.getElem?_eq_some_iff.1 hy).1
      rw [List.length_append] at this
      simp at this
      omega
     subst hq2
     rw [List.getElem?_append_right (Nat.le_refl _), Nat.sub_self] at hy
     injection hy with hy
     subst hy
     obtain ⟨a, cap, rfl, h1, h2⟩ := hrel.2 pre.length (.e (.c (.os k i n))) u (by rw [List.getElem?_append_right (Nat.le_refl _), Nat.sub_self]; rfl) hu
     refine ⟨a, cap, rfl, h1, fun h0 => ?_⟩
     obtain ⟨x, hx, h3⟩ := h2 h0
     exact ⟨x, ⟨(if_pos rfl).trans hx.1, hx.2⟩, h3⟩
 . obtain ⟨v, r', x, Hf, nf, rfl, ⟨g, rfl, hg, hl⟩, st', hn', hx, hlow⟩ := he
   have hbel : Below w.heap.size w w' := ⟨st'.os, st'.tape, st'.output, st'.size, fun b hb => st'.kept b hb (fun h => h)⟩
   obtain ⟨g1, g2⟩ := st.below hbel
   refine ⟨v, rfl, r, g1, g2, fun _ _ => rfl, fun k e he => .inr ⟨e, he⟩, ?_⟩
   obtain ⟨cs, rfl, c1, c2⟩ := hx
   refine ⟨cs, rfl, c1, fun j u hu => ?_⟩
   have hj : j < E.sz + 1 := by rw [<- c1]; exact (Array.getElem?_eq_some_iff.1 hu).1
   have h3 := c2 j u hu
   by_cases he : j = E.sz
   . subst he
     rw [tailC_end]
     rw [hl] at h3
     obtain ⟨a, cap, rfl, h1, h2⟩ := h3
     refine ⟨a, cap, rfl, h1, fun h0 => ?_⟩
     obtain ⟨x, hx, h4⟩ := h2 h0
     exact ⟨x, ⟨((hlow 0 (by omega)).symm.trans hx.1 : _), hx.2⟩, h4⟩
   . rw [tailC_lt (by omega)]
     rw [hg j (by omega)] at h3
     exact E.flat _ _ _ _ _ _ _ _ _ _ _ h3
theorem loc_tok (s d : Int) (i n : Nat) : exec T (mkQ LRa) 1 Tryz.f27.ntmps 1 (Tryz.f27.body.getD Code.ret) (argFr ([(cI .u16).enc s, (cI .u16).enc d] ++ [.e (.c (.os 0 i n))]) 0) [] 1 (endH T Tryz.f27.results.toList fun x _ _ => TokD eHd (locP s d []).1 i n x) := by
 have e1 : linkF k1 = (lX, true) := k_link1
 have e2 : linkF k2 = (lY, true) := k_link2
 unfold locP
 obtain ⟨X, eX⟩ : ∃ X, lX = X := ⟨_, rfl⟩
 obtain ⟨Y, eY⟩ : ∃ X, lY = X := ⟨_, rfl⟩
 rw [eX] at e1 ⊢
 rw [eY] at e2 ⊢
 have g1 : True := trivial
 repeat' (first | (apply And.intro <;> intro hc <;> (first | exact Bool.noConfusion hc | (simp only [zb0, ne_eq, not_true_eq_false] at hc <;> first | exact absurd rfl hc | skip) | skip)) | (refine And.intro zp1 ?_) | (apply And.intro) | (intro s hs; (first | (clear g1; have q : s = (X, true) := hs.trans e1; clear hs; subst q) | (have q : s = (Y, true) := hs.trans e2; clear hs; subst q))))
 refine ⟨⟨_, rfl, fun j hj => ?_, rfl⟩⟩
 iterate 38 (rcases j with _ | j; exact rfl)
 exact absurd hj (by show ¬ _ < 38; omega)
theorem local_ok (s d : Int) (b : List Int) : PureOk Tryz.prog 27 [(cI .u16).enc s, (cI .u16).enc d, (cSlT eB).enc b] (.e (tailR eHd eB (locP s d b))) := by
 have e1 : linkF k1 = (lX, true) := k_link1
 have e2 : linkF k2 = (lY, true) := k_link2
 unfold locP
 obtain ⟨X, eX⟩ : ∃ X, lX = X := ⟨_, rfl⟩
 obtain ⟨Y, eY⟩ : ∃ X, lY = X := ⟨_, rfl⟩
 rw [eX] at e1 ⊢
 rw [eY] at e2 ⊢
 have g1 : True := trivial
 refine pure_intro (wd := 1) (Q := mkQ LRa) (by decide) tysOk (q_of LRa_ok) mixed Tryz.func27 rfl _ (by show 3 <= _; decide) _ ?_
 repeat' (first | (apply And.intro <;> intro hc <;> (first | exact Bool.noConfusion hc | (simp only [zb0, ne_eq, not_true_eq_false] at hc <;> first | exact absurd rfl hc | skip) | skip)) | (refine And.intro zp1 ?_) | (apply And.intro) | (intro s hs; (first | (clear g1; have q : s = (X, true) := hs.trans e1; clear hs; subst q) | (have q : s = (Y, true) := hs.trans e2; clear hs; subst q))))
 refine Done.mk (leF_e (leE_tail rfl (fun j hj => ?_) ?_))
 . iterate 38 (rcases j with _ | j; exact leC_int rfl)
   exact absurd hj (by show ¬ _ < 38; omega)
 . exact leC_sl (fun _ => rfl) rfl rfl fun i _ j _ => leC_cell rfl
def locE : Entry := fun args H nm wd =>
 match args with
 | [.e (.c (.int .u16 s)), .e (.c (.int .u16 d)), .e (.c (.os k i n))] => some fun K => K (.e (.agg (eHd.sz + 1) (tailC eHd (locP s d []).1 (.os k i n)))) [] []
 | _ => pureE (AC.cons (cI .u16) (AC.cons (cI .u16) (AC.cons (cSlT eB) AC.nil))) (fun _ => True) (fun a => locP a.1 a.2.1 a.2.2.1) (fun s => .e (tailR eHd eB s)) args H nm wd
theorem locE_ok : EntOk Tryz.prog 27 locE := by
 have h0 := pureE_ok (A := AC.cons (cI .u16) (AC.cons (cI .u16) (AC.cons (cSlT eB) AC.nil))) (p := fun _ => True) (F := fun a => locP a.1 a.2.1 a.2.2.1) (enc := fun s => .e (tailR eHd eB s)) (P := Tryz.prog) (f := 27) ⟨_, Tryz.func27, rfl, by kernel_rfl⟩ fun a _ => local_ok a.1 a.2.1 a.2.2.1
 refine ⟨fun args H nm wd q hwd hq K hK => ?_, fun args H nm wd q hq K K' hKK hK => ?_⟩
 . unfold locE at hq
   split at hq
   . rename_i s d k i n
     injection hq with hq
     subst hq
     refine ⟨_, _, _, callR_tok (by decide) tysOk (q_of LRa_ok) mixed Tryz.func27 rfl rfl (pre := [(cI .u16).enc s, (cI .u16).enc d]) (fun x hx => ?_) (by show 2 + 1 <= _; decide) (E := eHd) (a := (locP s d []).1) (loc_tok s d i n), hK⟩
     rcases List.mem_cons.1 hx with rfl | hx
     . exact ⟨_, rfl, flat_int⟩
     . obtain rfl := List.mem_singleton.1 hx
       exact ⟨_, rfl, flat_int⟩
   . exact h0.ok args H nm wd q hwd hq K hK
 . unfold locE at hq
   split at hq
   . injection hq with hq
     subst hq
     exact hKK _ _ _ hK
   . exact h0.mono args H nm wd q hq K K' hKK hK
abbrev cencE : Entry := newE (AC.cons cPk (AC.cons (cE eAdr) (AC.cons (cE eAdr) (AC.cons (cSl eCtx eCtx_sz) (AC.cons (cI .i64) AC.nil))))) (fun a => PkW a.1 /\ a.1.2.length <= 140737488355328 /\ bytesL a.2.2.2.1) (fun a => encC a.1 a.2.1 a.2.2.1 a.2.2.2.1 a.2.2.2.2.1) (fun s => some s.1.length) (fun s => some [i64V s.2]) (fun s => ents eB 5 s.1)
abbrev cplE : Entry := newE PA (fun a => PkW a.1 /\ a.1.2.length <= 140737488355328) (fun a => plainZ a.1) (fun s => some s.1.length) (fun s => some [i64V s.2]) (fun s => ents eB 5 s.1)
abbrev cdecE : Entry := pureE (AC.cons (cSl eB eB_sz) (AC.cons (cE eAdr) (AC.cons (cE eAdr) (AC.cons (cSl eCtx eCtx_sz) (AC.cons (cI .i64) AC.nil))))) (fun a => BL a.1 /\ a.1.length <= 140737488355328 /\ bytesL a.2.2.2.1) (fun a => decC a.1 a.2.1 a.2.2.1 a.2.2.2.1 a.2.2.2.2.1) encPE
theorem cencE_ok : EntOk Tryz.prog 26 cencE := newE_ok ⟨_, Tryz.func26, rfl, by kernel_rfl⟩ (fun s l h x hx => by injection h with h; subst h; obtain rfl := List.mem_singleton.1 hx; exact nfE_c nf_int) fun a h => cenc_ok a.1 a.2.1 a.2.2.1 a.2.2.2.1 a.2.2.2.2.1 h.1 h.2.1 h.2.2
theorem cplE_ok : EntOk Tryz.prog 28 cplE := newE_ok ⟨_, Tryz.func28, rfl, by kernel_rfl⟩ (fun s l h x hx => by injection h with h; subst h; obtain rfl := List.mem_singleton.1 hx; exact nfE_c nf_int) fun a h => plain_ok a.1 h.1 h.2
theorem cdecE_ok : EntOk Tryz.prog 35 cdecE := pureE_ok ⟨_, Tryz.func35, rfl, by kernel_rfl⟩ fun a h => cdec_ok a.1 a.2.1 a.2.2.1 a.2.2.2.1 a.2.2.2.2.1 h.1 h.2.1 h.2.2
def LCo0 : CsL := (26, some cencE) :: (28, some cplE) :: (35, some cdecE) :: (37, some rsameE) :: (25, some sizeE) :: (27, some locE) :: LIe
theorem LCo0_ok : AllOk Tryz.prog LCo0 := ⟨cencE_ok, cplE_ok, cdecE_ok, (LRp_ok).1, pureE_ok ⟨_, Tryz.func25, rfl, by kernel_rfl⟩ fun a h => rsize_ok a.1 h, locE_ok, LIe_ok⟩
theorem encC_congr {p p' : Pkt} {a a' b b' : Adr} {l l' : List Ctx} {n : Int} (h1 : p' = p) (h2 : a' = a) (h3 : b' = b) (h4 : l' = l) : encC p' a' b' l' n = encC p a b l n := by rw [h1, h2, h3, h4]
theorem loc_known : ∃ x y : Int, encC (locP 61617 61618 [7]) k1 k2 [] 0 = ([126, 51, 243, 18, x, y, 7], 0) := by
 have h := locP_C (s := 61617) (d := 61618) (b := [7]) (by decide) (by decide) (.cons (by decide) .nil) (by decide)
 rw [beB2] at h
 exact ⟨_, _, h⟩
theorem known15_ok : PureOk Tryz.prog 9 [] (cB.enc true) := by
 obtain ⟨x, y, e3⟩ := loc_known
 have hW := (locP_m (s := 61617) (d := 61618) (b := [7]) (by decide) (by decide) (.cons (by decide) .nil) (by decide)).w
 refine pure_intro (wd := 1) (Q := mkQ LCo0) (by decide) tysOk (q_of LCo0_ok) mixed Tryz.func9 rfl _ (by show 0 <= _; decide) _ ?_
 repeat' (first | (apply And.intro <;> intro hc <;> (first | exact Bool.noConfusion hc | (simp only [zb0, ne_eq, not_true_eq_false] at hc <;> first | exact absurd rfl hc | skip) | skip)) | (refine And.intro zp1 ?_) | (apply And.intro) | (intro s hs; (have q : s = ([126, 51, 243, 18, x, y, 7], 0) := hs.trans ((encC_congr (pk_is (h := (locP 61617 61618 []).1) (l := [7]) (fun j hj => tailC_lt hj) rfl) rfl rfl rfl).trans e3); clear hs; subst q)))
 all_goals first
  | exact rfl
  | exact Nat.le_of_ble_eq_true rfl
  | exact bytes_nil
  | exact Eq.mp (congrArg PkW (pk_is (h := (locP 61617 61618 []).1) (l := [7]) (fun j hj => tailC_lt hj) rfl).symm) hW
  | exact Done.mk (leF_bool rfl)
  | skip
abbrev kn15E : Entry := pureE AC.nil (fun _ => True) (fun _ => true) cB.enc
def LCo : CsL := (9, some kn15E) :: LCo0
theorem LCo_ok : AllOk Tryz.prog LCo := ⟨pureE_ok ⟨_, Tryz.func9, rfl, by kernel_rfl⟩ fun _ _ => known15_ok, LCo0_ok⟩
def LJ5 : CsL := (52, some uniE) :: (53, some grpFE) :: (49, some (pureE chkA (fun a => bytesL a.2.2.1) (fun a => checkF a.1 a.2.1 a.2.2.1 a.2.2.2.1) (cI .i64).enc)) :: (50, some (pureE PA (fun a => 0 <= a.1.1.flow /\ a.1.1.flow < 4294967296) (fun a => flowF a.1) encIS)) :: LJ1
theorem LJ5_ok : AllOk Tryz.prog LJ5 := ⟨pureE_ok ⟨_, Tryz.func52, rfl, by kernel_rfl⟩ fun a h => runi_ok a.1 a.2.1 a.2.2.1 a.2.2.2.1 a.2.2.2.2.1 h.1 h.2, pureE_ok ⟨_, Tryz.func53, rfl, by kernel_rfl⟩ fun a _ => rgrp_ok a.1, pureE_ok ⟨_, Tryz.func49, rfl, by kernel_rfl⟩ fun a h => rready_ok a.1 a.2.1 a.2.2.1 a.2.2.2.1 h, pureE_ok ⟨_, Tryz.func50, rfl, by kernel_rfl⟩ fun a h => rflow_ok a.1 h, LJ1_ok⟩
theorem jflow_r (p : Pkt) : 0 <= (flowF p).1 /\ (flowF p).1 <= 3 := by
 unfold flowF
 split
 . exact ⟨(by decide : (0 : Int) <= 0), (by decide : (0 : Int) <= 3)⟩
 . split
   . exact ⟨(by decide : (0 : Int) <= 1), (by decide : (1 : Int) <= 3)⟩
   . split
     . exact ⟨(by decide : (0 : Int) <= 2), (by decide : (2 : Int) <= 3)⟩
     . exact ⟨(by decide : (0 : Int) <= 3), (by decide : (3 : Int) <= 3)⟩
theorem flow_l (p : Pkt) : (flowF p).2.length <= 4 := by
 have h3 := beB_n p.1.flow 3 (by decide)
 have h3' : (beB p.1.flow 3).length = 3 := h3
 unfold flowF
 split
 . simp [h3']
 . split
   . simp [h3']
   . split <;> simp
theorem hop_r (h : Int) : 0 <= hopF h /\ hopF h <= 3 := by
 unfold hopF
 split <;> (try split) <;> (try split) <;> omega
theorem ids_l {s d : Fm} (hs : FmW s) (hd : FmW d) (h : ¬ s.id = 0) : 16 * s.id + d.id ≠ 0 := by
 have := hs.id
 have := hd.id
 omega
theorem ids_r {s d : Fm} (hs : FmW s) (hd : FmW d) (h0 : s.id = 0) (h : ¬ d.id = 0) : 16 * s.id + d.id ≠ 0 := by omega
theorem ids_cell {x y z : Int} {k m : Nat} (hk : k < [y].length) (h : x = y) : CV.int .u8 (bif Nat.beq (0 + (m + k - m)) 0 then x else z) = .int .u8 ([y].getD k default) := by
 obtain rfl : k = 0 := (by have hk' : k < 1 := hk; omega)
 rw [show 0 + (m + 0 - m) = 0 by omega]
 exact congrArg (CV.int .u8) h
theorem one_cell {y : Int} {k m : Nat} {c : CV} (hk : k < [y].length) : selC (Nat.beq (0 + (m + k - m)) 0) (.int .u8 y) c = .int .u8 ([y].getD k default) := by
 obtain rfl : k = 0 := (by have hk' : k < 1 := hk; omega)
 rw [show 0 + (m + 0 - m) = 0 by omega]
 exact selC_true _ _
theorem first_eq {F H : Int} (n : Bool) (hF : 0 <= F /\ F <= 3) (hH : 0 <= H /\ H <= 3) : IntKind.u8.wrap (IntKind.i64.wrap (IntKind.i64.wrap (IntKind.i64.wrap (96 + IntKind.i64.wrap (8 * F)) + bitV n 4) + H)) = 96 + 8 * F + bitV n 4 + H := by
 have := bitV_r n 4 (by decide)
 rw [IntWalk.i64_in (8 * F) (by omega), IntWalk.i64_in (96 + 8 * F) (by omega), IntWalk.i64_in (96 + 8 * F + bitV n 4) (by omega), IntWalk.i64_in _ (by omega), IntWalk.u8_in _ (by omega)]
theorem sec_eq2 {s d : Fm} (hs : FmW s) (hd : FmW d) (m b : Bool) (hb : decide (16 * s.id + d.id ≠ 0) = b) : IntKind.u8.wrap (IntKind.i64.wrap (IntKind.i64.wrap (IntKind.i64.wrap (IntKind.i64.wrap (IntKind.i64.wrap (bitV b 128 + bitV s.ctx 64) + IntKind.i64.wrap (16 * s.mode)) + bitV m 8) + bitV d.ctx 4) + d.mode)) = secF s d m := by
 have h1 := hs.mode
 have h2 := hd.mode
 unfold secF
 rw [hb]
 have b1 := bitV_r b 128 (by decide)
 have b2 := bitV_r s.ctx 64 (by decide)
 have b3 := bitV_r m 8 (by decide)
 have b4 := bitV_r d.ctx 4 (by decide)
 rw [IntWalk.i64_in (16 * s.mode) (by omega), IntWalk.i64_in (bitV b 128 + bitV s.ctx 64) (by omega), IntWalk.i64_in (bitV b 128 + bitV s.ctx 64 + 16 * s.mode) (by omega), IntWalk.i64_in (bitV b 128 + bitV s.ctx 64 + 16 * s.mode + bitV m 8) (by omega),
  IntWalk.i64_in (bitV b 128 + bitV s.ctx 64 + 16 * s.mode + bitV m 8 + bitV d.ctx 4) (by omega), IntWalk.i64_in _ (by omega), IntWalk.u8_in _ (by omega)]
theorem ids_u8 {s d : Fm} (hs : FmW s) (hd : FmW d) : IntKind.u8.wrap (IntKind.i64.wrap (IntKind.i64.wrap (16 * s.id) + d.id)) = 16 * s.id + d.id := by
 have h1 := hs.id
 have h2 := hd.id
 rw [ids_eq hs hd]
 exact u8_id (by omega)
theorem dec_ne {s d : Fm} (h0 : s.id = 0) : decide (16 * s.id + d.id ≠ 0) = (d.id != 0) := by
 rw [show 16 * s.id + d.id = d.id by omega]
 by_cases h : d.id = 0 <;> simp [h]
theorem renc_true (p : Pkt) (f t : Adr) (l : List Ctx) (now : Int) (hp : PkW p) (hpl : p.2.length <= 140737488355328) (hl : bytesL l) (hm : mcast p.1.dst = true) : NewOk Tryz.prog 30 [cPk.enc p, (cE eAdr).enc f, (cE eAdr).enc t, (cSl eCtx eCtx_sz).enc l, (cI .i64).enc now] (some (encI p f t l now).1.length) (some [i64V (encI p f t l now).2]) (ents eB 5 (encI p f t l now).1) := by
 obtain ⟨W, eW⟩ : ∃ W, encI p f t l now = W := ⟨_, rfl⟩
 rw [eW]
 unfold encI joinH firstF inlF at eW
 have wU := uni_w p.1.src f true l now
 have sl1 := uni_len p.1.src f true l now
 have hFl := jflow_r p
 have hHp := hop_r p.1.hops
 have slF := flow_l p
 have wX := grp_w p.1.dst
 have sl2 := (grp_len p.1.dst).1
 have eDst : dstF p t l now = grpF p.1.dst := by unfold dstF; rw [if_pos hm]
 obtain ⟨G, eG⟩ : ∃ x, grpF p.1.dst = x := ⟨_, rfl⟩
 obtain ⟨V, eV⟩ : ∃ x, validP p = x := ⟨_, rfl⟩
 obtain ⟨Ck, eC⟩ : ∃ x, checkF f t l now = x := ⟨_, rfl⟩
 obtain ⟨Fl, eF⟩ : ∃ x, flowF p = x := ⟨_, rfl⟩
 obtain ⟨Hp, eH⟩ : ∃ x, hopF p.1.hops = x := ⟨_, rfl⟩
 obtain ⟨U, eU⟩ : ∃ x, uniF p.1.src f true l now = x := ⟨_, rfl⟩
 rw [eG] at eDst wX sl2
 rw [eV, eC, eF, eH, eU, eDst, hm] at eW
 rw [eU] at wU sl1
 rw [eF] at hFl slF
 rw [eH] at hHp
 have hb1 : byteOk p.1.src := ⟨fun q => by have := hp.src q.1; rw [vget_lt _ q.2] at this; exact this⟩
 have hb2 : byteOk p.1.dst := ⟨fun q => by have := hp.dst q.1; rw [vget_lt _ q.2] at this; exact this⟩
 have e1 : V = false -> W = ([], 1) := fun h => by rw [<- eW, if_pos h]
 have e2 : V = true -> ¬ Ck = 0 -> W = ([], Ck) := fun h g => by rw [<- eW, if_neg (by rw [h]; decide), if_pos g]
 have e3_000 : V = true -> Ck = 0 -> 16 * U.1.id + G.1.id = 0 -> ¬ p.1.nxt = 17 -> ¬ Hp = 0 -> W = ([96 + 8 * Fl.1 + bitV (decide (p.1.nxt = 17)) 4 + Hp, secF U.1 G.1 true] ++ Fl.2 ++ [p.1.nxt] ++ U.2 ++ G.2, 0) := fun h g i n k => by rw [<- eW, if_neg (by rw [h]; decide), if_neg (fun x => x g), if_neg (fun x => x i), if_neg n, if_neg k]; simp only [List.append_assoc, List.nil_append, List.append_nil]
 have e3_001 : V = true -> Ck = 0 -> 16 * U.1.id + G.1.id = 0 -> ¬ p.1.nxt = 17 -> Hp = 0 -> W = ([96 + 8 * Fl.1 + bitV (decide (p.1.nxt = 17)) 4 + Hp, secF U.1 G.1 true] ++ Fl.2 ++ [p.1.nxt] ++ [p.1.hops] ++ U.2 ++ G.2, 0) := fun h g i n k => by rw [<- eW, if_neg (by rw [h]; decide), if_neg (fun x => x g), if_neg (fun x => x i), if_neg n, if_pos k]; simp only [List.append_assoc, List.nil_append, List.append_nil]
 have e3_010 : V = true -> Ck = 0 -> 16 * U.1.id + G.1.id = 0 -> p.1.nxt = 17 -> ¬ Hp = 0 -> W = ([96 + 8 * Fl.1 + bitV (decide (p.1.nxt = 17)) 4 + Hp, secF U.1 G.1 true] ++ Fl.2 ++ U.2 ++ G.2, 0) := fun h g i n k => by rw [<- eW, if_neg (by rw [h]; decide), if_neg (fun x => x g), if_neg (fun x => x i), if_pos n, if_neg k]; simp only [List.append_assoc, List.nil_append, List.append_nil]
 have e3_011 : V = true -> Ck = 0 -> 16 * U.1.id + G.1.id = 0 -> p.1.nxt = 17 -> Hp = 0 -> W = ([96 + 8 * Fl.1 + bitV (decide (p.1.nxt = 17)) 4 + Hp, secF U.1 G.1 true] ++ Fl.2 ++ [p.1.hops] ++ U.2 ++ G.2, 0) := fun h g i n k => by rw [<- eW, if_neg (by rw [h]; decide), if_neg (fun x => x g), if_neg (fun x => x i), if_pos n, if_pos k]; simp only [List.append_assoc, List.nil_append, List.append_nil]
 have e3_100 : V = true -> Ck = 0 -> 16 * U.1.id + G.1.id ≠ 0 -> ¬ p.1.nxt = 17 -> ¬ Hp = 0 -> W = ([96 + 8 * Fl.1 + bitV (decide (p.1.nxt = 17)) 4 + Hp, secF U.1 G.1 true] ++ [16 * U.1.id + G.1.id] ++ Fl.2 ++ [p.1.nxt] ++ U.2 ++ G.2, 0) := fun h g i n k => by rw [<- eW, if_neg (by rw [h]; decide), if_neg (fun x => x g), if_pos i, if_neg n, if_neg k]; simp only [List.append_assoc, List.nil_append, List.append_nil]
 have e3_101 : V = true -> Ck = 0 -> 16 * U.1.id + G.1.id ≠ 0 -> ¬ p.1.nxt = 17 -> Hp = 0 -> W = ([96 + 8 * Fl.1 + bitV (decide (p.1.nxt = 17)) 4 + Hp, secF U.1 G.1 true] ++ [16 * U.1.id + G.1.id] ++ Fl.2 ++ [p.1.nxt] ++ [p.1.hops] ++ U.2 ++ G.2, 0) := fun h g i n k => by rw [<- eW, if_neg (by rw [h]; decide), if_neg (fun x => x g), if_pos i, if_neg n, if_pos k]; simp only [List.append_assoc, List.nil_append, List.append_nil]
 have e3_110 : V = true -> Ck = 0 -> 16 * U.1.id + G.1.id ≠ 0 -> p.1.nxt = 17 -> ¬ Hp = 0 -> W = ([96 + 8 * Fl.1 + bitV (decide (p.1.nxt = 17)) 4 + Hp, secF U.1 G.1 true] ++ [16 * U.1.id + G.1.id] ++ Fl.2 ++ U.2 ++ G.2, 0) := fun h g i n k => by rw [<- eW, if_neg (by rw [h]; decide), if_neg (fun x => x g), if_pos i, if_pos n, if_neg k]; simp only [List.append_assoc, List.nil_append, List.append_nil]
 have e3_111 : V = true -> Ck = 0 -> 16 * U.1.id + G.1.id ≠ 0 -> p.1.nxt = 17 -> Hp = 0 -> W = ([96 + 8 * Fl.1 + bitV (decide (p.1.nxt = 17)) 4 + Hp, secF U.1 G.1 true] ++ [16 * U.1.id + G.1.id] ++ Fl.2 ++ [p.1.hops] ++ U.2 ++ G.2, 0) := fun h g i n k => by rw [<- eW, if_neg (by rw [h]; decide), if_neg (fun x => x g), if_pos i, if_pos n, if_pos k]; simp only [List.append_assoc, List.nil_append, List.append_nil]
 have eI8 := ids_u8 wU wX
 have eF' := eF
 have eH' := eH
 have eF' := eF
 have eH' := eH
 clear eW eDst eF eH
 have g1 : True := trivial
 have g2 : True := trivial
 refine new_intro (wd := 1) (Q := mkQ LJ5) (by decide) tysOk (q_of LJ5_ok) mixed Tryz.func30 rfl _ (by show 5 <= _; decide) (fun i _ j _ => row_nf eB _ i j) ?_
 repeat' (first | (apply And.intro <;> intro hc <;> (first | exact Bool.noConfusion hc | (exfalso; first | exact Bool.noConfusion hc) | (simp only [zb0, ne_eq, not_true_eq_false] at hc <;> first | exact absurd rfl hc | (exfalso; first | exact Bool.noConfusion hc) | skip) | skip)) | (refine And.intro zp1 ?_) | (apply And.intro) | (intro s hs; (first | (have q : V = s := (hs.trans ((congrArg validP (pk_eq p _)).trans eV)).symm; clear hs; subst q) | (have q : Ck = s := (hs.trans ((congr (congr (congrArg (fun a b c => checkF a b c now) (rd_adr f)) (rd_adr t)) (toL_ctx l)).trans eC)).symm; clear hs; subst q) | (clear g2; have q : Fl = s := (hs.trans ((congrArg flowF (pk_eq p _)).trans eF')).symm; clear hs; subst q) | (have q : Hp = s := (hs.trans eH').symm; clear hs; subst q) | (clear g1; have q : U = s := (hs.trans ((congr (congr (congrArg (fun a b c => uniF a b true c now) (src_eq p.1 _)) (rd_adr f)) (toL_ctx l)).trans eU)).symm; clear hs; subst q) | (have q : s = true := hs.trans ((congrArg mcast (dst_eq p.1 _)).trans hm); clear hs; subst q) | (have q : G = s := (hs.trans ((congrArg grpF (dst_eq p.1 _)).trans eG)).symm; clear hs; subst q) | (have q := hs; dsimp only at q; clear hs; subst q) | skip)))
 all_goals first
  | (show (toL eB p.2.length _).length <= _; rw [toL_len]; exact hpl)
  | ((first | rw [e1 (by assumption)] | rw [e2 (by assumption) (by assumption)])
     exact ⟨⟨none, leF_tup ⟨leC_nils_os rfl, leC_int rfl, trivial⟩, rfl, rfl, (by show 0 < 1; omega)⟩⟩)
  | exact Eq.mp (congrArg PkW (pk_eq p _).symm) hp
  | exact Eq.mp (congrArg (fun p : Pkt => 0 <= p.1.flow) (pk_eq p _).symm) hp.flow.1
  | exact Eq.mp (congrArg (fun p : Pkt => p.1.flow < 4294967296) (pk_eq p _).symm) hp.flow.2
  | exact Eq.mp (congrArg byteOk (src_eq p.1 _).symm) hb1
  | exact Eq.mp (congrArg byteOk (dst_eq p.1 _).symm) hb2
  | exact Eq.mp (congrArg bytesL (toL_ctx l).symm) hl
  | omega
  | skip
 all_goals first
  | (have hne := (show 16 * U.1.id + G.1.id = 0 by rw [show U.1.id = 0 by assumption, show G.1.id = 0 by assumption]; rfl)
     have e := e3_000 (by assumption) (by assumption) hne (by assumption) (by assumption)
     have hid : decide (16 * U.1.id + G.1.id ≠ 0) = (G.1.id != 0) := dec_ne (by assumption)
     rw [e]
     refine ⟨⟨some _, leF_tup ⟨leC_os rfl ?_, leC_int rfl, trivial⟩, leN_is ?_ (isRow_sel ?_ (isRow_sel ?_ (isRow_sel ?_ (isRow_sel rfl (isRow_2 (congrArg (CV.int .u8) (first_eq _ hFl hHp)) (congrArg (CV.int .u8) (sec_eq2 wU wX true (G.1.id != 0) hid))) (fun k hk => rowF_at (by omega))) (fun k hk => one_cell hk)) (fun k hk => rowF_at (by omega))) (fun k hk => rowF_at (by omega)))⟩⟩
     all_goals first
      | (simp only [List.length_append, List.length_cons, List.length_nil]; done)
      | rfl
      | skip)
  | (have hne := (show 16 * U.1.id + G.1.id = 0 by rw [show U.1.id = 0 by assumption, show G.1.id = 0 by assumption]; rfl)
     have e := e3_001 (by assumption) (by assumption) hne (by assumption) (by assumption)
     have hid : decide (16 * U.1.id + G.1.id ≠ 0) = (G.1.id != 0) := dec_ne (by assumption)
     rw [e]
     refine ⟨⟨some _, leF_tup ⟨leC_os rfl ?_, leC_int rfl, trivial⟩, leN_is ?_ (isRow_sel ?_ (isRow_sel ?_ (isRow_sel ?_ (isRow_sel ?_ (isRow_sel rfl (isRow_2 (congrArg (CV.int .u8) (first_eq _ hFl hHp)) (congrArg (CV.int .u8) (sec_eq2 wU wX true (G.1.id != 0) hid))) (fun k hk => rowF_at (by omega))) (fun k hk => one_cell hk)) (fun k hk => one_cell hk)) (fun k hk => rowF_at (by omega))) (fun k hk => rowF_at (by omega)))⟩⟩
     all_goals first
      | (simp only [List.length_append, List.length_cons, List.length_nil]; done)
      | rfl
      | skip)
  | (have hne := (show 16 * U.1.id + G.1.id = 0 by rw [show U.1.id = 0 by assumption, show G.1.id = 0 by assumption]; rfl)
     have e := e3_010 (by assumption) (by assumption) hne (by assumption) (by assumption)
     have hid : decide (16 * U.1.id + G.1.id ≠ 0) = (G.1.id != 0) := dec_ne (by assumption)
     rw [e]
     refine ⟨⟨some _, leF_tup ⟨leC_os rfl ?_, leC_int rfl, trivial⟩, leN_is ?_ (isRow_sel ?_ (isRow_sel ?_ (isRow_sel rfl (isRow_2 (congrArg (CV.int .u8) (first_eq _ hFl hHp)) (congrArg (CV.int .u8) (sec_eq2 wU wX true (G.1.id != 0) hid))) (fun k hk => rowF_at (by omega))) (fun k hk => rowF_at (by omega))) (fun k hk => rowF_at (by omega)))⟩⟩
     all_goals first
      | (simp only [List.length_append, List.length_cons, List.length_nil]; done)
      | rfl
      | skip)
  | (have hne := (show 16 * U.1.id + G.1.id = 0 by rw [show U.1.id = 0 by assumption, show G.1.id = 0 by assumption]; rfl)
     have e := e3_011 (by assumption) (by assumption) hne (by assumption) (by assumption)
     have hid : decide (16 * U.1.id + G.1.id ≠ 0) = (G.1.id != 0) := dec_ne (by assumption)
     rw [e]
     refine ⟨⟨some _, leF_tup ⟨leC_os rfl ?_, leC_int rfl, trivial⟩, leN_is ?_ (isRow_sel ?_ (isRow_sel ?_ (isRow_sel ?_ (isRow_sel rfl (isRow_2 (congrArg (CV.int .u8) (first_eq _ hFl hHp)) (congrArg (CV.int .u8) (sec_eq2 wU wX true (G.1.id != 0) hid))) (fun k hk => rowF_at (by omega))) (fun k hk => one_cell hk)) (fun k hk => rowF_at (by omega))) (fun k hk => rowF_at (by omega)))⟩⟩
     all_goals first
      | (simp only [List.length_append, List.length_cons, List.length_nil]; done)
      | rfl
      | skip)
  | (have hne := (ids_l wU wX (by assumption))
     have e := e3_100 (by assumption) (by assumption) hne (by assumption) (by assumption)
     have hid : decide (16 * U.1.id + G.1.id ≠ 0) = true := decide_eq_true hne
     rw [e]
     refine ⟨⟨some _, leF_tup ⟨leC_os rfl ?_, leC_int rfl, trivial⟩, leN_is ?_ (isRow_sel ?_ (isRow_sel ?_ (isRow_sel ?_ (isRow_sel ?_ (isRow_sel rfl (isRow_2 (congrArg (CV.int .u8) (first_eq _ hFl hHp)) (congrArg (CV.int .u8) (sec_eq2 wU wX true true hid))) (fun k hk => ids_cell hk eI8)) (fun k hk => rowF_at (by omega))) (fun k hk => one_cell hk)) (fun k hk => rowF_at (by omega))) (fun k hk => rowF_at (by omega)))⟩⟩
     all_goals first
      | (simp only [List.length_append, List.length_cons, List.length_nil]; done)
      | rfl
      | skip)
  | (have hne := (ids_r wU wX (by assumption) (by assumption))
     have e := e3_100 (by assumption) (by assumption) hne (by assumption) (by assumption)
     have hid : decide (16 * U.1.id + G.1.id ≠ 0) = (G.1.id != 0) := dec_ne (by assumption)
     rw [e]
     refine ⟨⟨some _, leF_tup ⟨leC_os rfl ?_, leC_int rfl, trivial⟩, leN_is ?_ (isRow_sel ?_ (isRow_sel ?_ (isRow_sel ?_ (isRow_sel ?_ (isRow_sel rfl (isRow_2 (congrArg (CV.int .u8) (first_eq _ hFl hHp)) (congrArg (CV.int .u8) (sec_eq2 wU wX true (G.1.id != 0) hid))) (fun k hk => ids_cell hk eI8)) (fun k hk => rowF_at (by omega))) (fun k hk => one_cell hk)) (fun k hk => rowF_at (by omega))) (fun k hk => rowF_at (by omega)))⟩⟩
     all_goals first
      | (simp only [List.length_append, List.length_cons, List.length_nil]; done)
      | rfl
      | skip)
  | (have hne := (ids_l wU wX (by assumption))
     have e := e3_101 (by assumption) (by assumption) hne (by assumption) (by assumption)
     have hid : decide (16 * U.1.id + G.1.id ≠ 0) = true := decide_eq_true hne
     rw [e]
     refine ⟨⟨some _, leF_tup ⟨leC_os rfl ?_, leC_int rfl, trivial⟩, leN_is ?_ (isRow_sel ?_ (isRow_sel ?_ (isRow_sel ?_ (isRow_sel ?_ (isRow_sel ?_ (isRow_sel rfl (isRow_2 (congrArg (CV.int .u8) (first_eq _ hFl hHp)) (congrArg (CV.int .u8) (sec_eq2 wU wX true true hid))) (fun k hk => ids_cell hk eI8)) (fun k hk => rowF_at (by omega))) (fun k hk => one_cell hk)) (fun k hk => one_cell hk)) (fun k hk => rowF_at (by omega))) (fun k hk => rowF_at (by omega)))⟩⟩
     all_goals first
      | (simp only [List.length_append, List.length_cons, List.length_nil]; done)
      | rfl
      | skip)
  | (have hne := (ids_r wU wX (by assumption) (by assumption))
     have e := e3_101 (by assumption) (by assumption) hne (by assumption) (by assumption)
     have hid : decide (16 * U.1.id + G.1.id ≠ 0) = (G.1.id != 0) := dec_ne (by assumption)
     rw [e]
     refine ⟨⟨some _, leF_tup ⟨leC_os rfl ?_, leC_int rfl, trivial⟩, leN_is ?_ (isRow_sel ?_ (isRow_sel ?_ (isRow_sel ?_ (isRow_sel ?_ (isRow_sel ?_ (isRow_sel rfl (isRow_2 (congrArg (CV.int .u8) (first_eq _ hFl hHp)) (congrArg (CV.int .u8) (sec_eq2 wU wX true (G.1.id != 0) hid))) (fun k hk => ids_cell hk eI8)) (fun k hk => rowF_at (by omega))) (fun k hk => one_cell hk)) (fun k hk => one_cell hk)) (fun k hk => rowF_at (by omega))) (fun k hk => rowF_at (by omega)))⟩⟩
     all_goals first
      | (simp only [List.length_append, List.length_cons, List.length_nil]; done)
      | rfl
      | skip)
  | (have hne := (ids_l wU wX (by assumption))
     have e := e3_110 (by assumption) (by assumption) hne (by assumption) (by assumption)
     have hid : decide (16 * U.1.id + G.1.id ≠ 0) = true := decide_eq_true hne
     rw [e]
     refine ⟨⟨some _, leF_tup ⟨leC_os rfl ?_, leC_int rfl, trivial⟩, leN_is ?_ (isRow_sel ?_ (isRow_sel ?_ (isRow_sel ?_ (isRow_sel rfl (isRow_2 (congrArg (CV.int .u8) (first_eq _ hFl hHp)) (congrArg (CV.int .u8) (sec_eq2 wU wX true true hid))) (fun k hk => ids_cell hk eI8)) (fun k hk => rowF_at (by omega))) (fun k hk => rowF_at (by omega))) (fun k hk => rowF_at (by omega)))⟩⟩
     all_goals first
      | (simp only [List.length_append, List.length_cons, List.length_nil]; done)
      | rfl
      | skip)
  | (have hne := (ids_r wU wX (by assumption) (by assumption))
     have e := e3_110 (by assumption) (by assumption) hne (by assumption) (by assumption)
     have hid : decide (16 * U.1.id + G.1.id ≠ 0) = (G.1.id != 0) := dec_ne (by assumption)
     rw [e]
     refine ⟨⟨some _, leF_tup ⟨leC_os rfl ?_, leC_int rfl, trivial⟩, leN_is ?_ (isRow_sel ?_ (isRow_sel ?_ (isRow_sel ?_ (isRow_sel rfl (isRow_2 (congrArg (CV.int .u8) (first_eq _ hFl hHp)) (congrArg (CV.int .u8) (sec_eq2 wU wX true (G.1.id != 0) hid))) (fun k hk => ids_cell hk eI8)) (fun k hk => rowF_at (by omega))) (fun k hk => rowF_at (by omega))) (fun k hk => rowF_at (by omega)))⟩⟩
     all_goals first
      | (simp only [List.length_append, List.length_cons, List.length_nil]; done)
      | rfl
      | skip)
  | (have hne := (ids_l wU wX (by assumption))
     have e := e3_111 (by assumption) (by assumption) hne (by assumption) (by assumption)
     have hid : decide (16 * U.1.id + G.1.id ≠ 0) = true := decide_eq_true hne
     rw [e]
     refine ⟨⟨some _, leF_tup ⟨leC_os rfl ?_, leC_int rfl, trivial⟩, leN_is ?_ (isRow_sel ?_ (isRow_sel ?_ (isRow_sel ?_ (isRow_sel ?_ (isRow_sel rfl (isRow_2 (congrArg (CV.int .u8) (first_eq _ hFl hHp)) (congrArg (CV.int .u8) (sec_eq2 wU wX true true hid))) (fun k hk => ids_cell hk eI8)) (fun k hk => rowF_at (by omega))) (fun k hk => one_cell hk)) (fun k hk => rowF_at (by omega))) (fun k hk => rowF_at (by omega)))⟩⟩
     all_goals first
      | (simp only [List.length_append, List.length_cons, List.length_nil]; done)
      | rfl
      | skip)
  | (have hne := (ids_r wU wX (by assumption) (by assumption))
     have e := e3_111 (by assumption) (by assumption) hne (by assumption) (by assumption)
     have hid : decide (16 * U.1.id + G.1.id ≠ 0) = (G.1.id != 0) := dec_ne (by assumption)
     rw [e]
     refine ⟨⟨some _, leF_tup ⟨leC_os rfl ?_, leC_int rfl, trivial⟩, leN_is ?_ (isRow_sel ?_ (isRow_sel ?_ (isRow_sel ?_ (isRow_sel ?_ (isRow_sel rfl (isRow_2 (congrArg (CV.int .u8) (first_eq _ hFl hHp)) (congrArg (CV.int .u8) (sec_eq2 wU wX true (G.1.id != 0) hid))) (fun k hk => ids_cell hk eI8)) (fun k hk => rowF_at (by omega))) (fun k hk => one_cell hk)) (fun k hk => rowF_at (by omega))) (fun k hk => rowF_at (by omega)))⟩⟩
     all_goals first
      | (simp only [List.length_append, List.length_cons, List.length_nil]; done)
      | rfl
      | skip)
  | skip
theorem renc_false (p : Pkt) (f t : Adr) (l : List Ctx) (now : Int) (hp : PkW p) (hpl : p.2.length <= 140737488355328) (hl : bytesL l) (hm : mcast p.1.dst = false) : NewOk Tryz.prog 30 [cPk.enc p, (cE eAdr).enc f, (cE eAdr).enc t, (cSl eCtx eCtx_sz).enc l, (cI .i64).enc now] (some (encI p f t l now).1.length) (some [i64V (encI p f t l now).2]) (ents eB 5 (encI p f t l now).1) := by
 obtain ⟨W, eW⟩ : ∃ W, encI p f t l now = W := ⟨_, rfl⟩
 rw [eW]
 unfold encI joinH firstF inlF at eW
 have wU := uni_w p.1.src f true l now
 have sl1 := uni_len p.1.src f true l now
 have hFl := jflow_r p
 have hHp := hop_r p.1.hops
 have slF := flow_l p
 have wX := uni_w p.1.dst t false l now
 have sl2 := uni_len p.1.dst t false l now
 have eDst : dstF p t l now = uniF p.1.dst t false l now := by unfold dstF; rw [if_neg (by rw [hm]; decide)]
 obtain ⟨D, eG⟩ : ∃ x, uniF p.1.dst t false l now = x := ⟨_, rfl⟩
 obtain ⟨V, eV⟩ : ∃ x, validP p = x := ⟨_, rfl⟩
 obtain ⟨Ck, eC⟩ : ∃ x, checkF f t l now = x := ⟨_, rfl⟩
 obtain ⟨Fl, eF⟩ : ∃ x, flowF p = x := ⟨_, rfl⟩
 obtain ⟨Hp, eH⟩ : ∃ x, hopF p.1.hops = x := ⟨_, rfl⟩
 obtain ⟨U, eU⟩ : ∃ x, uniF p.1.src f true l now = x := ⟨_, rfl⟩
 rw [eG] at eDst wX sl2
 rw [eV, eC, eF, eH, eU, eDst, hm] at eW
 rw [eU] at wU sl1
 rw [eF] at hFl slF
 rw [eH] at hHp
 have hb1 : byteOk p.1.src := ⟨fun q => by have := hp.src q.1; rw [vget_lt _ q.2] at this; exact this⟩
 have hb2 : byteOk p.1.dst := ⟨fun q => by have := hp.dst q.1; rw [vget_lt _ q.2] at this; exact this⟩
 have e1 : V = false -> W = ([], 1) := fun h => by rw [<- eW, if_pos h]
 have e2 : V = true -> ¬ Ck = 0 -> W = ([], Ck) := fun h g => by rw [<- eW, if_neg (by rw [h]; decide), if_pos g]
 have e3_000 : V = true -> Ck = 0 -> 16 * U.1.id + D.1.id = 0 -> ¬ p.1.nxt = 17 -> ¬ Hp = 0 -> W = ([96 + 8 * Fl.1 + bitV (decide (p.1.nxt = 17)) 4 + Hp, secF U.1 D.1 false] ++ Fl.2 ++ [p.1.nxt] ++ U.2 ++ D.2, 0) := fun h g i n k => by rw [<- eW, if_neg (by rw [h]; decide), if_neg (fun x => x g), if_neg (fun x => x i), if_neg n, if_neg k]; simp only [List.append_assoc, List.nil_append, List.append_nil]
 have e3_001 : V = true -> Ck = 0 -> 16 * U.1.id + D.1.id = 0 -> ¬ p.1.nxt = 17 -> Hp = 0 -> W = ([96 + 8 * Fl.1 + bitV (decide (p.1.nxt = 17)) 4 + Hp, secF U.1 D.1 false] ++ Fl.2 ++ [p.1.nxt] ++ [p.1.hops] ++ U.2 ++ D.2, 0) := fun h g i n k => by rw [<- eW, if_neg (by rw [h]; decide), if_neg (fun x => x g), if_neg (fun x => x i), if_neg n, if_pos k]; simp only [List.append_assoc, List.nil_append, List.append_nil]
 have e3_010 : V = true -> Ck = 0 -> 16 * U.1.id + D.1.id = 0 -> p.1.nxt = 17 -> ¬ Hp = 0 -> W = ([96 + 8 * Fl.1 + bitV (decide (p.1.nxt = 17)) 4 + Hp, secF U.1 D.1 false] ++ Fl.2 ++ U.2 ++ D.2, 0) := fun h g i n k => by rw [<- eW, if_neg (by rw [h]; decide), if_neg (fun x => x g), if_neg (fun x => x i), if_pos n, if_neg k]; simp only [List.append_assoc, List.nil_append, List.append_nil]
 have e3_011 : V = true -> Ck = 0 -> 16 * U.1.id + D.1.id = 0 -> p.1.nxt = 17 -> Hp = 0 -> W = ([96 + 8 * Fl.1 + bitV (decide (p.1.nxt = 17)) 4 + Hp, secF U.1 D.1 false] ++ Fl.2 ++ [p.1.hops] ++ U.2 ++ D.2, 0) := fun h g i n k => by rw [<- eW, if_neg (by rw [h]; decide), if_neg (fun x => x g), if_neg (fun x => x i), if_pos n, if_pos k]; simp only [List.append_assoc, List.nil_append, List.append_nil]
 have e3_100 : V = true -> Ck = 0 -> 16 * U.1.id + D.1.id ≠ 0 -> ¬ p.1.nxt = 17 -> ¬ Hp = 0 -> W = ([96 + 8 * Fl.1 + bitV (decide (p.1.nxt = 17)) 4 + Hp, secF U.1 D.1 false] ++ [16 * U.1.id + D.1.id] ++ Fl.2 ++ [p.1.nxt] ++ U.2 ++ D.2, 0) := fun h g i n k => by rw [<- eW, if_neg (by rw [h]; decide), if_neg (fun x => x g), if_pos i, if_neg n, if_neg k]; simp only [List.append_assoc, List.nil_append, List.append_nil]
 have e3_101 : V = true -> Ck = 0 -> 16 * U.1.id + D.1.id ≠ 0 -> ¬ p.1.nxt = 17 -> Hp = 0 -> W = ([96 + 8 * Fl.1 + bitV (decide (p.1.nxt = 17)) 4 + Hp, secF U.1 D.1 false] ++ [16 * U.1.id + D.1.id] ++ Fl.2 ++ [p.1.nxt] ++ [p.1.hops] ++ U.2 ++ D.2, 0) := fun h g i n k => by rw [<- eW, if_neg (by rw [h]; decide), if_neg (fun x => x g), if_pos i, if_neg n, if_pos k]; simp only [List.append_assoc, List.nil_append, List.append_nil]
 have e3_110 : V = true -> Ck = 0 -> 16 * U.1.id + D.1.id ≠ 0 -> p.1.nxt = 17 -> ¬ Hp = 0 -> W = ([96 + 8 * Fl.1 + bitV (decide (p.1.nxt = 17)) 4 + Hp, secF U.1 D.1 false] ++ [16 * U.1.id + D.1.id] ++ Fl.2 ++ U.2 ++ D.2, 0) := fun h g i n k => by rw [<- eW, if_neg (by rw [h]; decide), if_neg (fun x => x g), if_pos i, if_pos n, if_neg k]; simp only [List.append_assoc, List.nil_append, List.append_nil]
 have e3_111 : V = true -> Ck = 0 -> 16 * U.1.id + D.1.id ≠ 0 -> p.1.nxt = 17 -> Hp = 0 -> W = ([96 + 8 * Fl.1 + bitV (decide (p.1.nxt = 17)) 4 + Hp, secF U.1 D.1 false] ++ [16 * U.1.id + D.1.id] ++ Fl.2 ++ [p.1.hops] ++ U.2 ++ D.2, 0) := fun h g i n k => by rw [<- eW, if_neg (by rw [h]; decide), if_neg (fun x => x g), if_pos i, if_pos n, if_pos k]; simp only [List.append_assoc, List.nil_append, List.append_nil]
 have eI8 := ids_u8 wU wX
 have eF' := eF
 have eH' := eH
 clear eW eDst eF eH
 have g1 : True := trivial
 have g2 : True := trivial
 refine new_intro (wd := 1) (Q := mkQ LJ5) (by decide) tysOk (q_of LJ5_ok) mixed Tryz.func30 rfl _ (by show 5 <= _; decide) (fun i _ j _ => row_nf eB _ i j) ?_
 repeat' (first | (apply And.intro <;> intro hc <;> (first | exact Bool.noConfusion hc | (exfalso; first | exact Bool.noConfusion hc) | (simp only [zb0, ne_eq, not_true_eq_false] at hc <;> first | exact absurd rfl hc | (exfalso; first | exact Bool.noConfusion hc) | skip) | skip)) | (refine And.intro zp1 ?_) | (apply And.intro) | (intro s hs; (first | (have q : V = s := (hs.trans ((congrArg validP (pk_eq p _)).trans eV)).symm; clear hs; subst q) | (have q : Ck = s := (hs.trans ((congr (congr (congrArg (fun a b c => checkF a b c now) (rd_adr f)) (rd_adr t)) (toL_ctx l)).trans eC)).symm; clear hs; subst q) | (clear g2; have q : Fl = s := (hs.trans ((congrArg flowF (pk_eq p _)).trans eF')).symm; clear hs; subst q) | (have q : Hp = s := (hs.trans eH').symm; clear hs; subst q) | (clear g1; have q : U = s := (hs.trans ((congr (congr (congrArg (fun a b c => uniF a b true c now) (src_eq p.1 _)) (rd_adr f)) (toL_ctx l)).trans eU)).symm; clear hs; subst q) | (have q : s = false := hs.trans ((congrArg mcast (dst_eq p.1 _)).trans hm); clear hs; subst q) | (have q : D = s := (hs.trans ((congr (congr (congrArg (fun a b c => uniF a b false c now) (dst_eq p.1 _)) (rd_adr t)) (toL_ctx l)).trans eG)).symm; clear hs; subst q) | (have q := hs; dsimp only at q; clear hs; subst q) | skip)))
 all_goals first
  | (show (toL eB p.2.length _).length <= _; rw [toL_len]; exact hpl)
  | ((first | rw [e1 (by assumption)] | rw [e2 (by assumption) (by assumption)])
     exact ⟨⟨none, leF_tup ⟨leC_nils_os rfl, leC_int rfl, trivial⟩, rfl, rfl, (by show 0 < 1; omega)⟩⟩)
  | exact Eq.mp (congrArg PkW (pk_eq p _).symm) hp
  | exact Eq.mp (congrArg (fun p : Pkt => 0 <= p.1.flow) (pk_eq p _).symm) hp.flow.1
  | exact Eq.mp (congrArg (fun p : Pkt => p.1.flow < 4294967296) (pk_eq p _).symm) hp.flow.2
  | exact Eq.mp (congrArg byteOk (src_eq p.1 _).symm) hb1
  | exact Eq.mp (congrArg byteOk (dst_eq p.1 _).symm) hb2
  | exact Eq.mp (congrArg bytesL (toL_ctx l).symm) hl
  | omega
  | skip
 all_goals first
  | (have hne := (show 16 * U.1.id + D.1.id = 0 by rw [show U.1.id = 0 by assumption, show D.1.id = 0 by assumption]; rfl)
     have e := e3_000 (by assumption) (by assumption) hne (by assumption) (by assumption)
     have hid : decide (16 * U.1.id + D.1.id ≠ 0) = (D.1.id != 0) := dec_ne (by assumption)
     rw [e]
     refine ⟨⟨some _, leF_tup ⟨leC_os rfl ?_, leC_int rfl, trivial⟩, leN_is ?_ (isRow_sel ?_ (isRow_sel ?_ (isRow_sel ?_ (isRow_sel rfl (isRow_2 (congrArg (CV.int .u8) (first_eq _ hFl hHp)) (congrArg (CV.int .u8) (sec_eq2 wU wX false (D.1.id != 0) hid))) (fun k hk => rowF_at (by omega))) (fun k hk => one_cell hk)) (fun k hk => rowF_at (by omega))) (fun k hk => rowF_at (by omega)))⟩⟩
     all_goals first
      | (simp only [List.length_append, List.length_cons, List.length_nil]; done)
      | rfl
      | skip)
  | (have hne := (show 16 * U.1.id + D.1.id = 0 by rw [show U.1.id = 0 by assumption, show D.1.id = 0 by assumption]; rfl)
     have e := e3_001 (by assumption) (by assumption) hne (by assumption) (by assumption)
     have hid : decide (16 * U.1.id + D.1.id ≠ 0) = (D.1.id != 0) := dec_ne (by assumption)
     rw [e]
     refine ⟨⟨some _, leF_tup ⟨leC_os rfl ?_, leC_int rfl, trivial⟩, leN_is ?_ (isRow_sel ?_ (isRow_sel ?_ (isRow_sel ?_ (isRow_sel ?_ (isRow_sel rfl (isRow_2 (congrArg (CV.int .u8) (first_eq _ hFl hHp)) (congrArg (CV.int .u8) (sec_eq2 wU wX false (D.1.id != 0) hid))) (fun k hk => rowF_at (by omega))) (fun k hk => one_cell hk)) (fun k hk => one_cell hk)) (fun k hk => rowF_at (by omega))) (fun k hk => rowF_at (by omega)))⟩⟩
     all_goals first
      | (simp only [List.length_append, List.length_cons, List.length_nil]; done)
      | rfl
      | skip)
  | (have hne := (show 16 * U.1.id + D.1.id = 0 by rw [show U.1.id = 0 by assumption, show D.1.id = 0 by assumption]; rfl)
     have e := e3_010 (by assumption) (by assumption) hne (by assumption) (by assumption)
     have hid : decide (16 * U.1.id + D.1.id ≠ 0) = (D.1.id != 0) := dec_ne (by assumption)
     rw [e]
     refine ⟨⟨some _, leF_tup ⟨leC_os rfl ?_, leC_int rfl, trivial⟩, leN_is ?_ (isRow_sel ?_ (isRow_sel ?_ (isRow_sel rfl (isRow_2 (congrArg (CV.int .u8) (first_eq _ hFl hHp)) (congrArg (CV.int .u8) (sec_eq2 wU wX false (D.1.id != 0) hid))) (fun k hk => rowF_at (by omega))) (fun k hk => rowF_at (by omega))) (fun k hk => rowF_at (by omega)))⟩⟩
     all_goals first
      | (simp only [List.length_append, List.length_cons, List.length_nil]; done)
      | rfl
      | skip)
  | (have hne := (show 16 * U.1.id + D.1.id = 0 by rw [show U.1.id = 0 by assumption, show D.1.id = 0 by assumption]; rfl)
     have e := e3_011 (by assumption) (by assumption) hne (by assumption) (by assumption)
     have hid : decide (16 * U.1.id + D.1.id ≠ 0) = (D.1.id != 0) := dec_ne (by assumption)
     rw [e]
     refine ⟨⟨some _, leF_tup ⟨leC_os rfl ?_, leC_int rfl, trivial⟩, leN_is ?_ (isRow_sel ?_ (isRow_sel ?_ (isRow_sel ?_ (isRow_sel rfl (isRow_2 (congrArg (CV.int .u8) (first_eq _ hFl hHp)) (congrArg (CV.int .u8) (sec_eq2 wU wX false (D.1.id != 0) hid))) (fun k hk => rowF_at (by omega))) (fun k hk => one_cell hk)) (fun k hk => rowF_at (by omega))) (fun k hk => rowF_at (by omega)))⟩⟩
     all_goals first
      | (simp only [List.length_append, List.length_cons, List.length_nil]; done)
      | rfl
      | skip)
  | (have hne := (ids_l wU wX (by assumption))
     have e := e3_100 (by assumption) (by assumption) hne (by assumption) (by assumption)
     have hid : decide (16 * U.1.id + D.1.id ≠ 0) = true := decide_eq_true hne
     rw [e]
     refine ⟨⟨some _, leF_tup ⟨leC_os rfl ?_, leC_int rfl, trivial⟩, leN_is ?_ (isRow_sel ?_ (isRow_sel ?_ (isRow_sel ?_ (isRow_sel ?_ (isRow_sel rfl (isRow_2 (congrArg (CV.int .u8) (first_eq _ hFl hHp)) (congrArg (CV.int .u8) (sec_eq2 wU wX false true hid))) (fun k hk => ids_cell hk eI8)) (fun k hk => rowF_at (by omega))) (fun k hk => one_cell hk)) (fun k hk => rowF_at (by omega))) (fun k hk => rowF_at (by omega)))⟩⟩
     all_goals first
      | (simp only [List.length_append, List.length_cons, List.length_nil]; done)
      | rfl
      | skip)
  | (have hne := (ids_r wU wX (by assumption) (by assumption))
     have e := e3_100 (by assumption) (by assumption) hne (by assumption) (by assumption)
     have hid : decide (16 * U.1.id + D.1.id ≠ 0) = (D.1.id != 0) := dec_ne (by assumption)
     rw [e]
     refine ⟨⟨some _, leF_tup ⟨leC_os rfl ?_, leC_int rfl, trivial⟩, leN_is ?_ (isRow_sel ?_ (isRow_sel ?_ (isRow_sel ?_ (isRow_sel ?_ (isRow_sel rfl (isRow_2 (congrArg (CV.int .u8) (first_eq _ hFl hHp)) (congrArg (CV.int .u8) (sec_eq2 wU wX false (D.1.id != 0) hid))) (fun k hk => ids_cell hk eI8)) (fun k hk => rowF_at (by omega))) (fun k hk => one_cell hk)) (fun k hk => rowF_at (by omega))) (fun k hk => rowF_at (by omega)))⟩⟩
     all_goals first
      | (simp only [List.length_append, List.length_cons, List.length_nil]; done)
      | rfl
      | skip)
  | (have hne := (ids_l wU wX (by assumption))
     have e := e3_101 (by assumption) (by assumption) hne (by assumption) (by assumption)
     have hid : decide (16 * U.1.id + D.1.id ≠ 0) = true := decide_eq_true hne
     rw [e]
     refine ⟨⟨some _, leF_tup ⟨leC_os rfl ?_, leC_int rfl, trivial⟩, leN_is ?_ (isRow_sel ?_ (isRow_sel ?_ (isRow_sel ?_ (isRow_sel ?_ (isRow_sel ?_ (isRow_sel rfl (isRow_2 (congrArg (CV.int .u8) (first_eq _ hFl hHp)) (congrArg (CV.int .u8) (sec_eq2 wU wX false true hid))) (fun k hk => ids_cell hk eI8)) (fun k hk => rowF_at (by omega))) (fun k hk => one_cell hk)) (fun k hk => one_cell hk)) (fun k hk => rowF_at (by omega))) (fun k hk => rowF_at (by omega)))⟩⟩
     all_goals first
      | (simp only [List.length_append, List.length_cons, List.length_nil]; done)
      | rfl
      | skip)
  | (have hne := (ids_r wU wX (by assumption) (by assumption))
     have e := e3_101 (by assumption) (by assumption) hne (by assumption) (by assumption)
     have hid : decide (16 * U.1.id + D.1.id ≠ 0) = (D.1.id != 0) := dec_ne (by assumption)
     rw [e]
     refine ⟨⟨some _, leF_tup ⟨leC_os rfl ?_, leC_int rfl, trivial⟩, leN_is ?_ (isRow_sel ?_ (isRow_sel ?_ (isRow_sel ?_ (isRow_sel ?_ (isRow_sel ?_ (isRow_sel rfl (isRow_2 (congrArg (CV.int .u8) (first_eq _ hFl hHp)) (congrArg (CV.int .u8) (sec_eq2 wU wX false (D.1.id != 0) hid))) (fun k hk => ids_cell hk eI8)) (fun k hk => rowF_at (by omega))) (fun k hk => one_cell hk)) (fun k hk => one_cell hk)) (fun k hk => rowF_at (by omega))) (fun k hk => rowF_at (by omega)))⟩⟩
     all_goals first
      | (simp only [List.length_append, List.length_cons, List.length_nil]; done)
      | rfl
      | skip)
  | (have hne := (ids_l wU wX (by assumption))
     have e := e3_110 (by assumption) (by assumption) hne (by assumption) (by assumption)
     have hid : decide (16 * U.1.id + D.1.id ≠ 0) = true := decide_eq_true hne
     rw [e]
     refine ⟨⟨some _, leF_tup ⟨leC_os rfl ?_, leC_int rfl, trivial⟩, leN_is ?_ (isRow_sel ?_ (isRow_sel ?_ (isRow_sel ?_ (isRow_sel rfl (isRow_2 (congrArg (CV.int .u8) (first_eq _ hFl hHp)) (congrArg (CV.int .u8) (sec_eq2 wU wX false true hid))) (fun k hk => ids_cell hk eI8)) (fun k hk => rowF_at (by omega))) (fun k hk => rowF_at (by omega))) (fun k hk => rowF_at (by omega)))⟩⟩
     all_goals first
      | (simp only [List.length_append, List.length_cons, List.length_nil]; done)
      | rfl
      | skip)
  | (have hne := (ids_r wU wX (by assumption) (by assumption))
     have e := e3_110 (by assumption) (by assumption) hne (by assumption) (by assumption)
     have hid : decide (16 * U.1.id + D.1.id ≠ 0) = (D.1.id != 0) := dec_ne (by assumption)
     rw [e]
     refine ⟨⟨some _, leF_tup ⟨leC_os rfl ?_, leC_int rfl, trivial⟩, leN_is ?_ (isRow_sel ?_ (isRow_sel ?_ (isRow_sel ?_ (isRow_sel rfl (isRow_2 (congrArg (CV.int .u8) (first_eq _ hFl hHp)) (congrArg (CV.int .u8) (sec_eq2 wU wX false (D.1.id != 0) hid))) (fun k hk => ids_cell hk eI8)) (fun k hk => rowF_at (by omega))) (fun k hk => rowF_at (by omega))) (fun k hk => rowF_at (by omega)))⟩⟩
     all_goals first
      | (simp only [List.length_append, List.length_cons, List.length_nil]; done)
      | rfl
      | skip)
  | (have hne := (ids_l wU wX (by assumption))
     have e := e3_111 (by assumption) (by assumption) hne (by assumption) (by assumption)
     have hid : decide (16 * U.1.id + D.1.id ≠ 0) = true := decide_eq_true hne
     rw [e]
     refine ⟨⟨some _, leF_tup ⟨leC_os rfl ?_, leC_int rfl, trivial⟩, leN_is ?_ (isRow_sel ?_ (isRow_sel ?_ (isRow_sel ?_ (isRow_sel ?_ (isRow_sel rfl (isRow_2 (congrArg (CV.int .u8) (first_eq _ hFl hHp)) (congrArg (CV.int .u8) (sec_eq2 wU wX false true hid))) (fun k hk => ids_cell hk eI8)) (fun k hk => rowF_at (by omega))) (fun k hk => one_cell hk)) (fun k hk => rowF_at (by omega))) (fun k hk => rowF_at (by omega)))⟩⟩
     all_goals first
      | (simp only [List.length_append, List.length_cons, List.length_nil]; done)
      | rfl
      | skip)
  | (have hne := (ids_r wU wX (by assumption) (by assumption))
     have e := e3_111 (by assumption) (by assumption) hne (by assumption) (by assumption)
     have hid : decide (16 * U.1.id + D.1.id ≠ 0) = (D.1.id != 0) := dec_ne (by assumption)
     rw [e]
     refine ⟨⟨some _, leF_tup ⟨leC_os rfl ?_, leC_int rfl, trivial⟩, leN_is ?_ (isRow_sel ?_ (isRow_sel ?_ (isRow_sel ?_ (isRow_sel ?_ (isRow_sel rfl (isRow_2 (congrArg (CV.int .u8) (first_eq _ hFl hHp)) (congrArg (CV.int .u8) (sec_eq2 wU wX false (D.1.id != 0) hid))) (fun k hk => ids_cell hk eI8)) (fun k hk => rowF_at (by omega))) (fun k hk => one_cell hk)) (fun k hk => rowF_at (by omega))) (fun k hk => rowF_at (by omega)))⟩⟩
     all_goals first
      | (simp only [List.length_append, List.length_cons, List.length_nil]; done)
      | rfl
      | skip)
  | skip
theorem riencode_ok (p : Pkt) (f t : Adr) (l : List Ctx) (now : Int) (hp : PkW p) (hpl : p.2.length <= 140737488355328) (hl : bytesL l) : NewOk Tryz.prog 30 [cPk.enc p, (cE eAdr).enc f, (cE eAdr).enc t, (cSl eCtx eCtx_sz).enc l, (cI .i64).enc now] (some (encI p f t l now).1.length) (some [i64V (encI p f t l now).2]) (ents eB 5 (encI p f t l now).1) := by
 cases hm : mcast p.1.dst with
 | true => exact renc_true p f t l now hp hpl hl hm
 | false => exact renc_false p f t l now hp hpl hl hm
theorem renIE_ok : EntOk Tryz.prog 30 enIE := newE_ok ⟨_, Tryz.func30, rfl, by kernel_rfl⟩ (fun s l h x hx => by injection h with h; subst h; obtain rfl := List.mem_singleton.1 hx; exact nfE_c nf_int) fun a h => riencode_ok a.1 a.2.1 a.2.2.1 a.2.2.2.1 a.2.2.2.2.1 h.1 h.2.1 h.2.2
end Go.Proofs.YtjknkfjhcapocaaGreatDoor.AX
namespace Go.Proofs.YtjknkfjhcapocaaGreatDoor.AX
open Go.RowKit
theorem shr8 {x : Int} (h : 0 <= x /\ x < 65536) : (shrI .u16 x 8 = 240) ↔ byt x = true := by
 rw [byt_iff]
 have e : shrI .u16 x 8 = x / 256 := by
  show x.fdiv (2 ^ 8) = _
  rw [Int.fdiv_eq_ediv_of_nonneg _ (by decide)]; rfl
 rw [e]; omega
theorem shr4 {x : Int} (h : 0 <= x /\ x < 65536) : (shrI .u16 x 4 = 3851) ↔ half x = true := by
 rw [half_iff]
 have e : shrI .u16 x 4 = x / 16 := by
  show x.fdiv (2 ^ 4) = _
  rw [Int.fdiv_eq_ediv_of_nonneg _ (by decide)]; rfl
 rw [e]; omega
def LCq0 : CsL := (32, some oappE) :: []
theorem LCq0_ok : AllOk Tryz.prog LCq0 := ⟨rappE_ok, trivial⟩
theorem rports_3 (sp dp : Int) (hs : 0 <= sp /\ sp < 65536) (hd : 0 <= dp /\ dp < 65536) (h1 : half sp = true) (h2 : half dp = true) : NewOk Tryz.prog 31 [(cI .u16).enc sp, (cI .u16).enc dp] (some (portsF sp dp).length) none (ents eB 5 (portsF sp dp)) := by
 have b1 := half_iff.1 h1
 have b2 := half_iff.1 h2
 have wS : IntKind.u64.wrap sp = sp := IntWalk.u64_in _ (by omega)
 have wD : IntKind.u64.wrap dp = dp := IntWalk.u64_in _ (by omega)
 have x8s := shr8 hs
 have x8d := shr8 hd
 have x4s := shr4 hs
 have x4d := shr4 hd
 rw [ports_3 h1 h2]
 have m0 : sp.tmod 16 = sp - 61616 := by rw [Int.tmod_eq_emod_of_nonneg hs.1]; omega
 have m1 : dp.tmod 16 = dp - 61616 := by rw [Int.tmod_eq_emod_of_nonneg hd.1]; omega
 have e0 : IntKind.u8.wrap (IntKind.u16.wrap (IntKind.u16.wrap (sp.tmod 16 * 16) + dp.tmod 16)) = (sp - 61616) * 16 + (dp - 61616) := by
  rw [m0, m1, IntWalk.u16_in ((sp - 61616) * 16) (by omega), IntWalk.u16_in _ (by omega), IntWalk.u8_in _ (by omega)]
 refine new_intro (wd := 1) (Q := mkQ LCq0) (by decide) tysOk (q_of LCq0_ok) mixed Tryz.func31 rfl _ (by show 2 <= _; decide) (fun i _ j _ => row_nf eB _ i j) ?_
 repeat' (first | (apply And.intro <;> intro hc <;> (first | exact Bool.noConfusion hc | (exfalso; first | exact absurd hc (by assumption) | exact absurd (by assumption) hc | exact absurd (x4s.2 h1) hc | exact absurd (x4d.2 h2) hc) | (simp only [zb0, ne_eq, not_true_eq_false] at hc <;> first | exact absurd rfl hc | (exfalso; first | exact absurd hc (by assumption) | exact absurd (by assumption) hc | exact absurd (x4s.2 h1) hc | exact absurd (x4d.2 h2) hc) | skip) | skip)) | (refine And.intro zp1 ?_) | (apply And.intro) | (intro s hs; (first | skip)))
 all_goals first
  | exact rfl
  | exact fun _ => rfl
  | (show (toL eB _ _).length <= _; rw [toL_len]; omega)
  | omega
  | (refine ⟨⟨some _, leF_c (leC_os rfl rfl), leN_is rfl ⟨fun k hk => ?_⟩⟩⟩
     have hk' : k < 2 := hk
     rcases k with _ | _ | k
     . rfl
     . exact congrArg (CV.int .u8) e0
     . omega)
  | skip
theorem rports_1 (sp dp : Int) (hs : 0 <= sp /\ sp < 65536) (hd : 0 <= dp /\ dp < 65536) (h : ¬ (half sp = true /\ half dp = true)) (h1 : byt dp = true) : NewOk Tryz.prog 31 [(cI .u16).enc sp, (cI .u16).enc dp] (some (portsF sp dp).length) none (ents eB 5 (portsF sp dp)) := by
 have b1 := byt_iff.1 h1
 have wS : IntKind.u64.wrap sp = sp := IntWalk.u64_in _ (by omega)
 have wD : IntKind.u64.wrap dp = dp := IntWalk.u64_in _ (by omega)
 have x8s := shr8 hs
 have x8d := shr8 hd
 have x4s := shr4 hs
 have x4d := shr4 hd
 rw [ports_1 h h1]
 have e0 : IntKind.u8.wrap dp = dp - 61440 := by
  unfold IntKind.wrap
  simp [IntKind.signed, IntKind.bits]
  omega
 obtain ⟨B1, e1⟩ : ∃ x, [241] ++ [sp / 256 % 256, sp % 256] = x := ⟨_, rfl⟩
 have l1 : B1.length = 3 := by rw [<- e1]; rfl
 have g0 : True := trivial
 rw [show [241, sp / 256 % 256, sp % 256, dp - 61440] = B1 ++ [dp - 61440] by rw [<- e1]; rfl]
 refine new_intro (wd := 1) (Q := mkQ LCq0) (by decide) tysOk (q_of LCq0_ok) mixed Tryz.func31 rfl _ (by show 2 <= _; decide) (fun i _ j _ => row_nf eB _ i j) ?_
 repeat' (first | (apply And.intro <;> intro hc <;> (first | exact Bool.noConfusion hc | (exfalso; first | exact absurd hc (by assumption) | exact absurd (by assumption) hc | exact absurd (x8d.2 h1) hc | exact h ⟨x4s.1 (by assumption), x4d.1 hc⟩) | (simp only [zb0, ne_eq, not_true_eq_false] at hc <;> first | exact absurd rfl hc | (exfalso; first | exact absurd hc (by assumption) | exact absurd (by assumption) hc | exact absurd (x8d.2 h1) hc | exact h ⟨x4s.1 (by assumption), x4d.1 hc⟩) | skip) | skip)) | (refine And.intro zp1 ?_) | (apply And.intro) | (intro s hs; (first | (clear g0; have q : B1 = s := ((ap_eq (v := sp) (n := 2) (l := [241]) hs rfl wS (beB2 _)).trans e1).symm; clear hs; subst q) | skip)))
 all_goals first
  | exact rfl
  | exact fun _ => rfl
  | (show (toL eB _ _).length <= _; rw [toL_len]; omega)
  | omega
  | (refine ⟨⟨some _, leF_c (leC_os rfl ?_), leN_is ?_ (isRow_sel rfl (isRow_row _) (fun k hk => ?_))⟩⟩
     . rw [List.length_append]; rfl
     . rw [List.length_append]; rfl
     . have hk' : k < 1 := hk
       obtain rfl := Nat.lt_one_iff.1 hk'
       simp only [Nat.add_sub_cancel_left]
       exact congrArg (CV.int .u8) e0)
  | skip
theorem rports_2 (sp dp : Int) (hs : 0 <= sp /\ sp < 65536) (hd : 0 <= dp /\ dp < 65536) (h : ¬ (half sp = true /\ half dp = true)) (h1 : byt dp = false) (h2 : byt sp = true) : NewOk Tryz.prog 31 [(cI .u16).enc sp, (cI .u16).enc dp] (some (portsF sp dp).length) none (ents eB 5 (portsF sp dp)) := by
 have b2 := byt_iff.1 h2
 have wS : IntKind.u64.wrap sp = sp := IntWalk.u64_in _ (by omega)
 have wD : IntKind.u64.wrap dp = dp := IntWalk.u64_in _ (by omega)
 have x8s := shr8 hs
 have x8d := shr8 hd
 have x4s := shr4 hs
 have x4d := shr4 hd
 rw [ports_2 h h1 h2]
 have y8d : ¬ shrI .u16 dp 8 = 240 := fun g => by rw [x8d.1 g] at h1; cases h1
 have e0 : IntKind.u8.wrap sp = sp - 61440 := by
  unfold IntKind.wrap
  simp [IntKind.signed, IntKind.bits]
  omega
 obtain ⟨B1, e1⟩ : ∃ x, [242, sp - 61440] ++ [dp / 256 % 256, dp % 256] = x := ⟨_, rfl⟩
 have l1 : B1.length = 4 := by rw [<- e1]; rfl
 have g0 : True := trivial
 rw [show [242, sp - 61440, dp / 256 % 256, dp % 256] = B1 by rw [<- e1]; rfl]
 refine new_intro (wd := 1) (Q := mkQ LCq0) (by decide) tysOk (q_of LCq0_ok) mixed Tryz.func31 rfl _ (by show 2 <= _; decide) (fun i _ j _ => row_nf eB _ i j) ?_
 repeat' (first | (apply And.intro <;> intro hc <;> (first | exact Bool.noConfusion hc | (exfalso; first | exact absurd hc (by assumption) | exact absurd (by assumption) hc | exact absurd hc y8d | exact absurd (x8s.2 h2) hc | exact h ⟨x4s.1 (by assumption), x4d.1 hc⟩) | (simp only [zb0, ne_eq, not_true_eq_false] at hc <;> first | exact absurd rfl hc | (exfalso; first | exact absurd hc (by assumption) | exact absurd (by assumption) hc | exact absurd hc y8d | exact absurd (x8s.2 h2) hc | exact h ⟨x4s.1 (by assumption), x4d.1 hc⟩) | skip) | skip)) | (refine And.intro zp1 ?_) | (apply And.intro) | (intro s hs; (first | (clear g0; have q : B1 = s := ((ap_eq (v := dp) (n := 2) (l := [242, sp - 61440]) hs (congrArg (fun x => [242, x]) e0) wD (beB2 _)).trans e1).symm; clear hs; subst q) | skip)))
 all_goals first
  | exact rfl
  | exact fun _ => rfl
  | (show (toL eB _ _).length <= _; rw [toL_len]; omega)
  | omega
  | exact ⟨⟨some _, leF_c (leC_os rfl rfl), leN_ents⟩⟩
  | skip
theorem rports_0 (sp dp : Int) (hs : 0 <= sp /\ sp < 65536) (hd : 0 <= dp /\ dp < 65536) (h : ¬ (half sp = true /\ half dp = true)) (h1 : byt dp = false) (h2 : byt sp = false) : NewOk Tryz.prog 31 [(cI .u16).enc sp, (cI .u16).enc dp] (some (portsF sp dp).length) none (ents eB 5 (portsF sp dp)) := by
 have wS : IntKind.u64.wrap sp = sp := IntWalk.u64_in _ (by omega)
 have wD : IntKind.u64.wrap dp = dp := IntWalk.u64_in _ (by omega)
 have x8s := shr8 hs
 have x8d := shr8 hd
 have x4s := shr4 hs
 have x4d := shr4 hd
 rw [ports_0 h h1 h2]
 have y8d : ¬ shrI .u16 dp 8 = 240 := fun g => by rw [x8d.1 g] at h1; cases h1
 have y8s : ¬ shrI .u16 sp 8 = 240 := fun g => by rw [x8s.1 g] at h2; cases h2
 obtain ⟨B1, e1⟩ : ∃ x, [240] ++ [sp / 256 % 256, sp % 256] = x := ⟨_, rfl⟩
 have l1 : B1.length = 3 := by rw [<- e1]; rfl
 have g0 : True := trivial
 obtain ⟨B2, e2⟩ : ∃ x, B1 ++ [dp / 256 % 256, dp % 256] = x := ⟨_, rfl⟩
 have l2 : B2.length = 5 := by rw [<- e2, List.length_append, l1]; rfl
 have g1 : True := trivial
 rw [show [240, sp / 256 % 256, sp % 256, dp / 256 % 256, dp % 256] = B2 by rw [<- e2, <- e1]; rfl]
 refine new_intro (wd := 1) (Q := mkQ LCq0) (by decide) tysOk (q_of LCq0_ok) mixed Tryz.func31 rfl _ (by show 2 <= _; decide) (fun i _ j _ => row_nf eB _ i j) ?_
 repeat' (first | (apply And.intro <;> intro hc <;> (first | exact Bool.noConfusion hc | (exfalso; first | exact absurd hc (by assumption) | exact absurd (by assumption) hc | exact absurd hc y8d | exact absurd hc y8s | exact h ⟨x4s.1 (by assumption), x4d.1 hc⟩) | (simp only [zb0, ne_eq, not_true_eq_false] at hc <;> first | exact absurd rfl hc | (exfalso; first | exact absurd hc (by assumption) | exact absurd (by assumption) hc | exact absurd hc y8d | exact absurd hc y8s | exact h ⟨x4s.1 (by assumption), x4d.1 hc⟩) | skip) | skip)) | (refine And.intro zp1 ?_) | (apply And.intro) | (intro s hs; (first | (clear g0; have q : B1 = s := ((ap_eq (v := sp) (n := 2) (l := [240]) hs rfl wS (beB2 _)).trans e1).symm; clear hs; subst q) | (clear g1; have q : B2 = s := ((ap_eq (v := dp) (n := 2) (l := B1) hs (toL_b0 _) wD (beB2 _)).trans e2).symm; clear hs; subst q) | skip)))
 all_goals first
  | exact rfl
  | exact fun _ => rfl
  | (show (toL eB _ _).length <= _; rw [toL_len]; omega)
  | omega
  | exact ⟨⟨some _, leF_c (leC_os rfl rfl), leN_ents⟩⟩
  | skip
theorem rports_ok (sp dp : Int) (hs : 0 <= sp /\ sp < 65536) (hd : 0 <= dp /\ dp < 65536) : NewOk Tryz.prog 31 [(cI .u16).enc sp, (cI .u16).enc dp] (some (portsF sp dp).length) none (ents eB 5 (portsF sp dp)) := by
 by_cases h : half sp = true /\ half dp = true
 . exact rports_3 sp dp hs hd h.1 h.2
 . cases h1 : byt dp with
   | true => exact rports_1 sp dp hs hd h h1
   | false =>
     cases h2 : byt sp with
     | true => exact rports_2 sp dp hs hd h h1 h2
     | false => exact rports_0 sp dp hs hd h h1 h2
abbrev rportsE : Entry := newE (AC.cons (cI .u16) (AC.cons (cI .u16) AC.nil)) (fun a => (0 <= a.1 /\ a.1 < 65536) /\ 0 <= a.2.1 /\ a.2.1 < 65536) (fun a => portsF a.1 a.2.1) (fun s => some s.length) (fun _ => none) (fun s => ents eB 5 s)
def LCq : CsL := (31, some rportsE) :: (30, some enIE) :: (32, some oappE) :: (33, some rsumE) :: (34, some rencE) :: []
theorem LCq_ok : AllOk Tryz.prog LCq := ⟨newE_ok ⟨_, Tryz.func31, rfl, by kernel_rfl⟩ (fun s l h => by cases h) fun a h => rports_ok a.1 a.2.1 h.1 h.2, renIE_ok, rappE_ok, (LRp2_ok).1, (LRp4_ok).1, trivial⟩
theorem rcenc_ok (p : Pkt) (f t : Adr) (l : List Ctx) (now : Int) (hp : PkW p) (hpl : p.2.length <= 140737488355328) (hl : bytesL l) : NewOk Tryz.prog 13 [cPk.enc p, (cE eAdr).enc f, (cE eAdr).enc t, (cSl eCtx eCtx_sz).enc l, (cI .i64).enc now] (some (encC p f t l now).1.length) (some [i64V (encC p f t l now).2]) (ents eB 5 (encC p f t l now).1) := by
 obtain ⟨W, eW⟩ : ∃ W, encC p f t l now = W := ⟨_, rfl⟩
 have hCl := encI_len p f t l now
 obtain ⟨C, eC⟩ : ∃ C, encI p f t l now = C := ⟨_, rfl⟩
 rw [eC] at hCl
 have hsm := encI_v eC
 have e1 := fun h => eW.symm.trans (encC_1 (p := p) (f := f) (t := t) (l := l) (now := now) eC h)
 have e2 := fun h g => eW.symm.trans (encC_2 (p := p) (f := f) (t := t) (l := l) (now := now) eC h g)
 have e3 := fun h g => eW.symm.trans (encC_3 (p := p) (f := f) (t := t) (l := l) (now := now) eC h g)
 rw [eW]
 clear eW
 have hM := sumP_r p
 have hsp := hp.sp
 have hdp := hp.dp
 obtain ⟨M, eM⟩ : ∃ M, sumP p = M := ⟨_, rfl⟩
 rw [eM] at hM
 have wM : IntKind.u64.wrap M = M := IntWalk.u64_in _ (by omega)
 have hP := ports_len p.1.sp p.1.dp
 obtain ⟨R, eR⟩ : ∃ R, portsF p.1.sp p.1.dp = R := ⟨_, rfl⟩
 rw [eR] at hP
 have eU : udpF p = R ++ beB M 2 := by unfold udpF; rw [eR, eM]
 obtain ⟨B2, eB2⟩ : ∃ x, (C.1 ++ R) ++ beB M 2 = x := ⟨_, rfl⟩
 have hB2 : B2.length = C.1.length + R.length + 2 := by rw [<- eB2, List.length_append, List.length_append, beB2]; rfl
 have eBU : C.1 ++ udpF p = B2 := by rw [eU, <- List.append_assoc]; exact eB2
 rw [eBU] at e2
 have rowQ : toL eB (C.1.length + R.length) (fun k j => selC (Nat.blt (0 + k) C.1.length) (rowF eB C.1 (0 + k) j) (rowF eB R (0 + (0 + k - C.1.length)) j)) = C.1 ++ R := toL_is (List.length_append ..).symm (isRow_0 (F := fun k j => selC (Nat.blt k C.1.length) (rowF eB C.1 k j) (rowF eB R (0 + (k - C.1.length)) j)) (isRow_sel rfl (isRow_row _) (fun k hk => rowF_at (by omega))))
 have g1 : True := trivial
 have g2 : True := trivial
 have g3 : True := trivial
 refine new_intro (wd := 1) (Q := mkQ LCq) (by decide) tysOk (q_of LCq_ok) mixed Tryz.func13 rfl _ (by show 5 <= _; decide) (fun i _ j _ => row_nf eB _ i j) ?_
 repeat' (first | (apply And.intro <;> intro hc <;> (first | exact Bool.noConfusion hc | (exfalso; first | exact absurd hc (by assumption) | exact absurd (by assumption) hc) | (simp only [zb0, ne_eq, not_true_eq_false] at hc <;> first | exact absurd rfl hc | (exfalso; first | exact absurd hc (by assumption) | exact absurd (by assumption) hc) | skip) | skip)) | (refine And.intro zp1 ?_) | (apply And.intro) | (intro s hs; (first | (clear g1; have q : C = s := (hs.trans ((encI_congr (pk_eq p _) (rd_adr f) (rd_adr t) (toL_ctx l)).trans eC)).symm; clear hs; subst q) | (clear g2; have q : R = s := (hs.trans eR).symm; clear hs; subst q) | (have q : M = s := (hs.trans ((congrArg sumP (pk_eq p _)).trans eM)).symm; clear hs; subst q) | (clear g3; have q : B2 = s := ((ap_eq (v := M) (n := 2) (l := C.1 ++ R) hs rowQ wM rfl).trans eB2).symm; clear hs; subst q) | skip)))
 all_goals first
  | exact fun _ => rfl
  | exact Eq.mp (congrArg PkW (pk_eq p _).symm) hp
  | (show (toL eB _ _).length <= _; rw [toL_len]; omega)
  | exact Eq.mp (congrArg bytesL (toL_ctx l).symm) hl
  | (rw [e1 (by assumption)]
     exact ⟨⟨none, leF_tup ⟨leC_nils_os rfl, leC_int rfl, trivial⟩, rfl, rfl, (by show 0 < 1; omega)⟩⟩)
  | omega
  | (have := hsm (by assumption); omega)
  | exact rfl
  | (rw [e2 (by assumption) (by assumption)]
     refine ⟨⟨some _, leF_tup ⟨leC_os rfl ?_, leC_int rfl, trivial⟩, leN_is ?_ (isRow_sel rfl (isRow_row _) (fun k hk => rowF_at (by omega)))⟩⟩
     . exact (List.length_append ..).symm
     . exact (List.length_append ..).symm)
  | (rw [e3 (by assumption) (by assumption)]
     refine ⟨⟨some _, leF_tup ⟨leC_os rfl ?_, leC_int rfl, trivial⟩, leN_is ?_ (isRow_sel rfl (isRow_row _) (fun k hk => rowF_at (by omega)))⟩⟩
     . exact (List.length_append ..).symm
     . exact (List.length_append ..).symm)
  | skip
theorem rplain_ok (p : Pkt) (hp : PkW p) (hpl : p.2.length <= 140737488355328) : NewOk Tryz.prog 14 [cPk.enc p] (some (plainZ p).1.length) (some [i64V (plainZ p).2]) (ents eB 5 (plainZ p).1) := by
 obtain ⟨W, eW⟩ : ∃ W, plainZ p = W := ⟨_, rfl⟩
 have hl : ((encR p).getD []).length <= 1280 := by
  unfold encR
  split
  . rename_i h
    have h1 := encB_len p (sumP p)
    have h2 := valid_size h
    show (encB p (sumP p)).length <= 1280
    omega
  . exact Nat.zero_le _
 obtain ⟨E, eE⟩ : ∃ E, encR p = E := ⟨_, rfl⟩
 have e0 : ¬ ecR E = 0 -> W = ([], 1) := fun h => by
  rw [<- eW]
  unfold plainZ
  rw [if_neg]
  intro hv
  apply h
  rw [<- eE]
  unfold encR
  rw [if_pos hv]; rfl
 have e1 : ecR E = 0 -> W = (65 :: E.getD [], 0) := fun h => by
  rw [<- eW]
  unfold plainZ
  by_cases hv : validP p = true
  . rw [if_pos hv, <- eE]
    unfold encR
    rw [if_pos hv]; rfl
  . exfalso
    rw [<- eE] at h
    unfold encR at h
    rw [if_neg hv] at h
    exact absurd h (by decide)
 rw [eE] at hl
 rw [eW]
 clear eW
 refine new_intro (wd := 1) (Q := mkQ LCq) (by decide) tysOk (q_of LCq_ok) mixed Tryz.func14 rfl _ (by show 1 <= _; decide) (fun i _ j _ => row_nf eB _ i j) ?_
 repeat' (first | (apply And.intro <;> intro hc <;> (first | exact Bool.noConfusion hc | (exfalso; first | exact absurd hc (by assumption) | exact absurd (by assumption) hc) | (simp only [zb0, ne_eq, not_true_eq_false] at hc <;> first | exact absurd rfl hc | (exfalso; first | exact absurd hc (by assumption) | exact absurd (by assumption) hc) | skip) | skip)) | (refine And.intro zp1 ?_) | (apply And.intro) | (intro s hs; (first | (have q : E = s := (hs.trans ((congrArg encR (pk_eq p _)).trans eE)).symm; clear hs; subst q) | skip)))
 . exact Eq.mp (congrArg PkW (pk_eq p _).symm) hp
 . show (toL eB _ _).length <= _; rw [toL_len]; omega
 . have he : ecR E = 1 := by
    cases E with
    | none => rfl
    | some x => exact absurd rfl (by assumption : ¬ ecR (some x) = 0)
   rw [e0 (by assumption)]
   exact ⟨⟨none, leF_tup ⟨leC_nils_os rfl, leC_int he, trivial⟩, rfl, rfl, (by show 0 < 1; omega)⟩⟩
 . rw [e1 (by assumption)]
   refine ⟨⟨some _, leF_tup ⟨leC_os rfl ?_, leC_int rfl, trivial⟩, leN_is (l := [65] ++ E.getD []) ?_ (isRow_sel (n := 1) (C := fun k j => rowF eB (E.getD []) (0 + (k - 1)) j) (l1 := [65]) rfl ⟨fun k hk => ?_⟩ (fun k hk => rowF_at (by omega)))⟩⟩
   . show _ = (65 :: E.getD []).length
     rw [List.length_cons]; omega
   . rw [List.length_append]; exact rfl
   . have hk' : k < 1 := hk
     have : k = 0 := by omega
     subst this; rfl
theorem rcencE_ok : EntOk Tryz.prog 13 cencE := newE_ok ⟨_, Tryz.func13, rfl, by kernel_rfl⟩ (fun s l h x hx => by injection h with h; subst h; obtain rfl := List.mem_singleton.1 hx; exact nfE_c nf_int) fun a h => rcenc_ok a.1 a.2.1 a.2.2.1 a.2.2.2.1 a.2.2.2.2.1 h.1 h.2.1 h.2.2
theorem rcplE_ok : EntOk Tryz.prog 14 cplE := newE_ok ⟨_, Tryz.func14, rfl, by kernel_rfl⟩ (fun s l h x hx => by injection h with h; subst h; obtain rfl := List.mem_singleton.1 hx; exact nfE_c nf_int) fun a h => rplain_ok a.1 h.1 h.2
def LZe : CsL := (26, some cencE) :: (28, some cplE) :: (13, some cencE) :: (14, some cplE) :: (29, some sameE) :: []
theorem LZe_ok : AllOk Tryz.prog LZe := ⟨cencE_ok, cplE_ok, rcencE_ok, rcplE_ok, sameE_ok, trivial⟩
theorem encC_len' (p : Pkt) (f t : Adr) (l : List Ctx) (now : Int) : (encC p f t l now).1.length <= 48 + p.2.length := by
 unfold encC
 split
 . have h1 := encI_len p f t l now
   have h2 := @tail_len p
   show ((encI p f t l now).1 ++ _).length <= _
   rw [List.length_append]; omega
 . exact Nat.zero_le _
theorem encC_sm (p : Pkt) (f t : Adr) (l : List Ctx) (now : Int) : (encC p f t l now).1.length <= 2000 := by
 have h := encC_len' p f t l now
 by_cases h0 : (encI p f t l now).2 = 0
 . have := encI_v rfl h0; omega
 . unfold encC
   rw [if_neg h0]; exact Nat.zero_le _
theorem plainZ_sm (p : Pkt) : (plainZ p).1.length <= 2000 := by
 unfold plainZ
 split
 . rename_i h
   have h1 := encB_len p (sumP p)
   have h2 := valid_size h
   show (encB p (sumP p)).length + 1 <= 2000
   omega
 . exact Nat.zero_le _
theorem encoded15_ok (p : Pkt) (f t : Adr) (l : List Ctx) (now : Int) (hp : PkW p) (hpl : p.2.length <= 140737488355328) (hl : bytesL l) : PureOk Tryz.prog 10 [cPk.enc p, (cE eAdr).enc f, (cE eAdr).enc t, (cSl eCtx eCtx_sz).enc l, (cI .i64).enc now] (cB.enc true) := by
 have hL := encC_sm p f t l now
 have hZ := plainZ_sm p
 obtain ⟨E, eE⟩ : ∃ E, encC p f t l now = E := ⟨_, rfl⟩
 obtain ⟨Z, eZ⟩ : ∃ Z, plainZ p = Z := ⟨_, rfl⟩
 rw [eE] at hL
 rw [eZ] at hZ
 have g1 : True := trivial
 have g2 : True := trivial
 have g3 : True := trivial
 have g4 : True := trivial
 refine pure_intro (wd := 1) (Q := mkQ LZe) (by decide) tysOk (q_of LZe_ok) mixed Tryz.func10 rfl _ (by show 5 <= _; decide) _ ?_
 repeat' (first | (apply And.intro <;> intro hc <;> (first | exact Bool.noConfusion hc | (exfalso; first | exact absurd rfl hc) | (simp only [zb0, ne_eq, not_true_eq_false] at hc <;> first | exact absurd rfl hc | (exfalso; first | exact absurd rfl hc) | skip) | skip)) | (refine And.intro zp1 ?_) | (apply And.intro) | (intro s hs; (first | (clear g1; have q : E = s := (hs.trans ((encC_congr (pk_eq p _) (rd_adr f) (rd_adr t) (toL_ctx l)).trans eE)).symm; clear hs; subst q) | (clear g2; have q : E = s := (hs.trans ((encC_congr (pk_eq p _) (rd_adr f) (rd_adr t) (toL_ctx l)).trans eE)).symm; clear hs; subst q) | (clear g3; have q : Z = s := (hs.trans ((congrArg plainZ (pk_eq p _)).trans eZ)).symm; clear hs; subst q) | (clear g4; have q : Z = s := (hs.trans ((congrArg plainZ (pk_eq p _)).trans eZ)).symm; clear hs; subst q) | (have q : s = true := hs.trans (decide_eq_true rfl); clear hs; subst q) | skip)))
 all_goals first
  | exact Eq.mp (congrArg PkW (pk_eq p _).symm) hp
  | (show (toL eB p.2.length _).length <= _; rw [toL_len]; exact hpl)
  | exact Eq.mp (congrArg bytesL (toL_ctx l).symm) hl
  | (show (toL eB E.1.length _).length <= _; rw [toL_len]; exact Nat.le_trans hL (by decide))
  | (show (toL eB Z.1.length _).length <= _; rw [toL_len]; exact Nat.le_trans hZ (by decide))
  | exact Done.mk (leF_bool rfl)
  | exact fun _ => rfl
  | exact rfl
  | skip
theorem now_ok (n : Nat) (l : List Int) (q : Int) (ht : TapeOk n (rI l) q) :
 ∃ (r q' : Int), True /\ TapeOk n (rI l) q' /\ MethOk Tryz.prog 12 [] (tapeN n (rI l) q) ((cI .i64).enc r) (tapeN n (rI l) q') := by
 refine tape_intro (wd := 1) (Q := mkQ LT2) (by decide) tysOk (q_of LT2_ok) mixed Tryz.func12 rfl _ (by show 0 + 1 <= _; decide) (fun _ => nff_int) ?_
 repeat' (first | (apply And.intro <;> intro hc <;> (first | exact Bool.noConfusion hc | (simp only [zb0] at hc) | skip)) | (refine And.intro zp1 ?_) | (apply And.intro) | (intro s hs))
 all_goals exact ⟨(_, _), ⟨trivial, by assumption⟩, ⟨leF_int rfl, tapeN_le⟩⟩
abbrev nowE : Entry := tapeE AC.nil (fun _ => True) (fun a (r : Int) => True) (cI .i64).enc
abbrev ecdE : Entry := pureE (AC.cons cPk (AC.cons (cE eAdr) (AC.cons (cE eAdr) (AC.cons (cSl eCtx eCtx_sz) (AC.cons (cI .i64) AC.nil))))) (fun a => PkW a.1 /\ a.1.2.length <= 140737488355328 /\ bytesL a.2.2.2.1) (fun _ => true) cB.enc
def LZw : CsL := (12, some nowE) :: (10, some ecdE) :: LCo
theorem LZw_ok : AllOk Tryz.prog LZw := ⟨tapeE_ok ⟨_, Tryz.func12, rfl, by kernel_rfl⟩ fun n l q a ht hp => now_ok n l q ht, pureE_ok ⟨_, Tryz.func10, rfl, by kernel_rfl⟩ fun a h => encoded15_ok a.1 a.2.1 a.2.2.1 a.2.2.2.1 a.2.2.2.2.1 h.1 h.2.1 h.2.2, LCo_ok⟩
theorem cencodes_ok (raw : Pkt) (hw : PkW raw) (hwl : raw.2.length <= 140737488355328) (f t : Adr) (tab : List Ctx) (htab : bytesL tab) (now : Int) (n : Nat) (l : List Int) (hl : rngL l) : PureOk Tryz.prog 3 [.e (.agg 39 (tailC eHd raw.1 (slR eB raw.2))), (cE eAdr).enc f, (cE eAdr).enc t, .e (.c (slR eCtx tab)), (cI .i64).enc now, .e (.c (.sl true n 1 (rI l)))] (.e (.c (.bool true))) := by
 refine pure_intro (wd := 1) (Q := mkQ LZw) (by decide) tysOk (q_of LZw_ok) mixed Tryz.func3 rfl _ (by show 6 <= _; decide) _ ?_
 repeat' (first | (apply And.intro <;> intro hc <;> (first | exact Bool.noConfusion hc | (simp only [zb0] at hc) | skip)) | (refine And.intro zp1 ?_) | (apply And.intro) | (intro s hs))
 . exact ⟨l, rfl, hl⟩
 intro ht0
 repeat' (first | (apply And.intro <;> intro hc <;> (first | exact Bool.noConfusion hc | (simp only [zb0, ne_eq, not_true_eq_false] at hc <;> first | exact absurd rfl hc | skip) | skip)) | (refine And.intro zp1 ?_) | (apply And.intro) | (intro s hs; (first | (have q : s = true := hs; clear hs; subst q) | skip)))
 all_goals first
  | exact Eq.mp (congrArg PkW (pk_eq raw _).symm) hw
  | (show (toL eB raw.2.length _).length <= _; rw [toL_len]; exact hwl)
  | exact Eq.mp (congrArg bytesL (toL_ctx tab).symm) htab
  | exact bytes_nil
  | exact Done.mk (leF_bool rfl)
  | exact rfl
  | exact fun _ => rfl
  | exact fun h => absurd h (Nat.not_lt_zero _)
  | (rename madeL _ => hL
     rename List Ctx => L
     exact Eq.mp (congrArg bytesL (toL_ctx L).symm) ⟨hL.b, Nat.le_trans hL.n (by decide)⟩)
  | (rename PkM _ => hm
     rename Pkt => r
     refine Eq.mp (congrArg PkW (pk_is (h := r.1) (l := r.2) (fun j hj => ?_) (toL_b r.2)).symm) hm.w
     iterate 38 (rcases j with _ | j; exact rfl)
     exact absurd hj (by omega))
  | (rename PkM _ => hm
     rename Pkt => r
     show (toL eB r.2.length _).length <= _
     rw [toL_len]
     have := valid_len hm.v
     omega)
  | skip
end Go.Proofs.YtjknkfjhcapocaaGreatDoor.AX
namespace Go.Proofs.YtjknkfjhcapocaaGreatDoor
open Go.ChangeShapes Go.WideShapes Go.RowKit AX
def TailArg (w : World) (ks : List (Option IntKind)) (k : IntKind) (b : Nat) (cs : Array Value) : Prop :=
 ∃ a len cap zs, Mt ks (cs.toList.take ks.length) /\ cs.toList.drop ks.length = [.slice a len cap] /\ IsRow k w a len cap zs /\ cap * b <= reachBytes
section
variable {H : Type} {enc : TypeId × Value -> H} {P : Program} {w : World} {base : Nat}
theorem flatFs_in {g : TypeId -> Option (List (Option IntKind))} : ∀ (fs : List Field) (off : Nat) (ks : List (Option IntKind)), flatFs P g fs off = some ks -> ∀ fd ∈ fs, ∀ l, g fd.type = some l -> fd.offset + P.cellsOf fd.type <= off + ks.length := by
 intro fs
 induction fs with
 | nil => intro off ks _ fd h; cases h
 | cons f0 rest ih =>
   intro off ks h fd hm l hl
   simp only [flatFs] at h
   split at h
   . rename_i l0 hg
     cases hb : (Nat.beq f0.offset off && Nat.beq (P.cellsOf f0.type) l0.length) with
     | false => rw [hb] at h; cases h
     | true =>
       rw [hb, cond_true] at h
       simp only [Bool.and_eq_true] at hb
       have h1 := Nat.eq_of_beq_eq_true hb.1
       have h2 := Nat.eq_of_beq_eq_true hb.2
       cases hr : flatFs P g rest (off + l0.length) with
       | none => rw [hr] at h; cases h
       | some l' =>
         rw [hr] at h
         simp only [Option.map_some, Option.some.injEq] at h
         subst h
         rw [List.length_append]
         rcases List.mem_cons.1 hm with rfl | hm
         . omega
         . have := ih _ _ hr fd hm l hl
           omega
   . cases h
theorem open_tail {r : Reach} {b0 f m b : Nat} {t e : TypeId} {v : Value} {d : DataW H} {ps : List MemPlace} {ks : List (Option IntKind)} {k : IntKind} {fs : Array Field} {fd : Field} (ht : P.underlying t = some (.struct fs)) (hf : flatFs P (flat P f) (fs.toList.take m) 0 = some ks)
 (hl : fs[m]? = some fd) (hn : fs.size = m + 1) (ho : fd.offset = ks.length) (hs : P.underlying fd.type = some (.slice e)) (he : P.underlying e = some (.int k)) (hc : P.cellsOf e = 1) (hc2 : P.cellsOf fd.type = 1) (hct : P.cellsOf t = ks.length + 1) (hby : P.bytesOf e = b)
 (hval : Value.okWide P w r b0 t v) (hd : DataW.Trod enc P w base (fun _ => true) true t v d ps) (hw : ∀ n ∈ d.weights P t, n <= reachBytes) :
 ∃ cs : Array Value, v = .agg cs /\ TailArg w ks k b cs := by
 have hv : ∃ cs, v = .agg cs := by
  unfold Value.okWide at hval
  rw [ht] at hval; obtain ⟨cs, rfl, _⟩ := hval; exact ⟨cs, rfl⟩
 obtain ⟨cs, rfl⟩ := hv
 obtain ⟨fuel, hd⟩ := hd
 obtain ⟨ys, n, _, hx, hlen, hyl, hfl⟩ := DataW.trod_struct ht hd
 injection hx with hx _
 have hcl : cs.toList.length = ks.length + 1 := hlen.trans hct
 refine ⟨cs, rfl, ?_⟩
 have hm8 := hfl m fd hl
 have hy8 : ys[m]? = some ys[m] := List.getElem?_eq_getElem (by omega)
 rw [hy8, ho, hc2] at hm8
 have hdr : (cs.toList.drop ks.length).take 1 = cs.toList.drop ks.length := List.take_of_length_le (by rw [List.length_drop]; omega)
 have hm8' : DataW.trod enc P w base (fun _ => true) true n fd.type (cs.toList.drop ks.length) = some ys[m] := by
  rw [<- hdr]; exact hm8
 have hmt : Mt ks (cs.toList.take ks.length) := by
  have h1 := flatFs_mt (P := P) (cs := cs.toList.take ks.length) (fs.toList.take m) 0 ks hf (fun fd hfd l hg => ?_) (by rw [List.length_take]; omega)
  . simpa using h1
  . have hin := flatFs_in _ _ _ hf fd hfd l hg
    obtain ⟨i, hi, hfi⟩ := List.getElem_of_mem hfd
    have hi2 : i < m := by rw [List.length_take] at hi; omega
    have e1 : fs[i]? = some fd := by
     rw [List.getElem_take] at hfi
     rw [Array.getElem?_eq_getElem (by omega)]
     simpa using hfi
    have h2 := hfl i fd e1
    have hy : ys[i]? = some ys[i] := List.getElem?_eq_getElem (by omega)
    rw [hy] at h2
    have h3 := flat_mt _ _ _ _ _ _ hg h2
    rw [List.drop_take, List.take_take, Nat.min_eq_left (by omega)]
    exact h3
 rcases open_ints hs he hc hm8' with ⟨hcs, _⟩ | ⟨x, len, cap, zs, hcs, _, h1, h2, h3, h4, h5, h6⟩
 . exact ⟨none, 0, 0, [], hmt, hcs, .inl ⟨rfl, rfl, rfl, rfl⟩, by simp⟩
 . simp only [if_true] at h3
   refine ⟨some x, len, cap, zs, hmt, hcs, .inr ⟨x, rfl, h1, h2, h3, h5, h6⟩, ?_⟩
   have hd8 : ((ys.map (·.1))[m]?) = some (.slice (lits k (zs.take len)) (lits k (zs.drop len))) := by
    rw [List.getElem?_map, hy8, Option.map_some, h4]
   have ht8 : (fs.toList.map (·.type))[m]? = some fd.type := by
    rw [List.getElem?_map, Array.getElem?_toList, hl]; rfl
   have hwt : DataW.weights P t d = DataW.weightsEach P (fs.toList.map (·.type)) (ys.map (·.1)) := by
    rw [hx, DataW.weights, ht]
   have := hw (((lits (H := H) k (zs.take len)).length + (lits (H := H) k (zs.drop len)).length) * P.bytesOf e) (by
    rw [hwt]
    exact DataW.weights_mem_each ht8 hd8 _ (by simp [DataW.weights, hs]))
   simp only [lits, List.length_map, List.length_take, List.length_drop] at this
   rw [hby] at this
   have e9 : min len zs.length + (zs.length - len) = cap := by omega
   rw [e9] at this
   exact this
end
theorem tail_rel {ks : List (Option IntKind)} {b : Nat} {cs : Array Value} {w : World} (h : TailArg w ks .u8 b cs) {α : Type} {E : Elem α} (hsz : E.sz = ks.length) (hok : ∀ g, MtC ks g -> E.ok g = true) :
 ∃ (a : α) (l : List Int), (∃ g, MtC ks g /\ a = E.rd g) /\ BL l /\ l.length * b <= reachBytes /\ (FV.e (.agg (E.sz + 1) (tailC E a (.sl true l.length eB.sz (rowF eB l))))).rel (fun _ => none) (fun _ => False) (fun _ => False) w (.agg cs) := by
 obtain ⟨a, len, cap, zs, hm, hlast, hrow, hb⟩ := h
 obtain ⟨h1, h2⟩ := hm.g
 obtain ⟨l, hl, hlen, hrel⟩ := rowB_cut hrow
 have hle := (rowB_all hrow).2.2
 have hn : cs.size = E.sz + 1 := by
  have e1 := congrArg List.length hlast
  rw [List.length_drop] at e1
  have e2 := hm.len
  rw [List.length_take] at e2
  have e3 : cs.toList.length = cs.size := by simp
  simp only [List.length_cons, List.length_nil] at e1
  omega
 refine ⟨E.rd (gOf (cs.toList.take ks.length)), l, ⟨_, h1, rfl⟩, hl, Nat.le_trans (Nat.mul_le_mul_right _ (by omega)) hb, cs, rfl, hn, fun i u hu => ?_⟩
 have hi : i < cs.size := (Array.getElem?_eq_some_iff.1 hu).1
 have hu' : cs.toList[i]? = some u := by simpa using hu
 by_cases he : i = E.sz
 . subst he
   rw [tailC_end]
   have e1 : (cs.toList.drop ks.length)[0]? = some u := by
    rw [List.getElem?_drop, Nat.add_zero, <- hsz]; exact hu'
   rw [hlast] at e1
   injection e1 with e1
   rw [<- e1]
   exact hrel
 . rw [tailC_lt (by omega), <- E.ok_eq _ (hok _ h1) i (by omega)]
   refine h2 _ _ _ _ i u ?_
   rw [List.getElem?_take, if_pos (by omega)]
   exact hu'
end Go.Proofs.YtjknkfjhcapocaaGreatDoor
namespace Go.Proofs.YtjknkfjhcapocaaGreatDoor
open Go.RowKit AX
abbrev ksPk : List (Option IntKind) := [some .u8, some .u32, some .u8, some .u8, some .u8, some .u8, some .u8, some .u8, some .u8, some .u8, some .u8, some .u8, some .u8, some .u8, some .u8, some .u8, some .u8, some .u8, some .u8, some .u8, some .u8, some .u8, some .u8, some .u8, some .u8, some .u8, some .u8, some .u8, some .u8, some .u8, some .u8, some .u8, some .u8, some .u8, some .u8, some .u8, some .u16, some .u16]
theorem ksPk_8 {i : Nat} (h : i < 32) : ksPk[4 + i]? = some (some .u8) := by
 iterate 32 (rcases i with _ | i; rfl)
 omega
theorem ok_pk (g : Nat -> CV) (h : MtC ksPk g) : eHd.ok g = true := by
 have a1 : okA .u8 g 4 16 = true := okA_of fun i hi => h.k (j := 4 + i) (ksPk_8 (by omega))
 have a2 : okA .u8 g 20 16 = true := okA_of fun i hi => h.k (j := 20 + i) (by have := ksPk_8 (i := 16 + i) (by omega); rw [show 4 + (16 + i) = 20 + i by omega] at this; exact this)
 show (isK .u8 (g 0) && isK .u32 (g 1) && isK .u8 (g 2) && isK .u8 (g 3) && okA .u8 g 4 16 && okA .u8 g 20 16 && isK .u16 (g 36) && isK .u16 (g 37)) = true
 rw [h.k (j := 0) rfl, h.k (j := 1) rfl, h.k (j := 2) rfl, h.k (j := 3) rfl, h.k (j := 36) rfl, h.k (j := 37) rfl, a1, a2]; rfl
theorem wf_u16p {n : Int} (h : (Lit.int .u16 n).wf = true) : 0 <= n /\ n < 65536 := by
 simp [Lit.wf, IntKind.min, IntKind.max, IntKind.bits, IntKind.signed] at h
 omega
theorem pk_wf {g : Nat -> CV} (h : MtC ksPk g) {l : List Int} (hl : BL l) : PkW (eHd.rd g, l) := by
 have v8 : ∀ o i, i < 16 -> (o = 4 \/ o = 20) -> 0 <= valI (g (o + i)) /\ valI (g (o + i)) < 256 := fun o i hi ho => by
  rcases ho with rfl | rfl
  . exact wf_u8 (h.wf (j := 4 + i) (ksPk_8 (by omega)))
  . exact wf_u8 (h.wf (j := 20 + i) (by have := ksPk_8 (i := 16 + i) (by omega); rw [show 4 + (16 + i) = 20 + i by omega] at this; exact this))
 refine ⟨wf_u8 (h.wf (j := 0) rfl), wf_u32p (h.wf (j := 1) rfl), wf_u8 (h.wf (j := 2) rfl), wf_u8 (h.wf (j := 3) rfl), fun i => ?_, fun i => ?_, wf_u16p (h.wf (j := 36) rfl), wf_u16p (h.wf (j := 37) rfl), hl⟩
 . unfold vget
   split
   . exact v8 4 i (by assumption) (.inl rfl)
   . omega
 . unfold vget
   split
   . exact v8 20 i (by assumption) (.inr rfl)
   . omega
abbrev ksCtx : List (Option IntKind) := [some .i64, some .u8, some .u8, some .u8, some .u8, some .u8, some .u8, some .u8, some .u8, some .u8, some .u8, some .u8, some .u8, some .u8, some .u8, some .u8, some .u8, some .i64, none, some .i64]
theorem ctx_at : ∀ i, i < 16 -> ksCtx[1 + i]? = some (some .u8) := by decide
theorem ok_ctx (g : Nat -> CV) (h : MtC ksCtx g) : eCtx.ok g = true := by
 show (isK .i64 (g 0) && okA .u8 g 1 16 && isK .i64 (g 17) && isB (g 18) && isK .i64 (g 19)) = true
 rw [h.k (j := 0) rfl, okA_of fun i hi => h.k (ctx_at i hi), h.k (j := 17) rfl, h.b (j := 18) rfl, h.k (j := 19) rfl]; rfl
theorem by_ctx {c : Ctx} (h : ∃ g, MtC ksCtx g /\ c = eCtx.rd g) : byteOk c.ip := by
 obtain ⟨g, hg, rfl⟩ := h
 exact ⟨fun q => wf_u8 (hg.wf (ctx_at q.1 q.2))⟩
abbrev ksAdr : List (Option IntKind) := [some .i64, some .u16, some .u64]
theorem ok_adr (g : Nat -> CV) (h : MtC ksAdr g) : eAdr.ok g = true := by
 show (isK .i64 (g 0) && isK .u16 (g 1) && isK .u64 (g 2)) = true
 rw [h.k (j := 0) rfl, h.k (j := 1) rfl, h.k (j := 2) rfl]; rfl
end Go.Proofs.YtjknkfjhcapocaaGreatDoor
namespace Go.Proofs.YtjknkfjhcapocaaGreatDoor.AX
open Go.RowKit
theorem adr_cells {w : World} {sp : Nat -> Bool} {held : Bool} {fuel : Nat} {cs : List Value} {a b c : Int} {p : List MemPlace} (h : DataW.trod (H := Unit) (fun _ => ()) Tryz.prog w 0 sp held fuel 33 cs = some (.agg [.lit (.int .i64 a), .lit (.int .u16 b), .lit (.int .u64 c)], p)) : cs = [.int .i64 a, .int .u16 b, .int .u64 c] := by
 obtain ⟨xs, n, _, hx, hl, hlen, hf⟩ := DataW.trod_struct Tryz.underlying33 h
 have hl3 : cs.length = 3 := hl.trans (by kernel_rfl)
 obtain ⟨c0, c1, c2, rfl⟩ : ∃ c0 c1 c2, cs = [c0, c1, c2] := by
  match cs, hl3 with
  | [x, y, z], _ => exact ⟨x, y, z, rfl⟩
 obtain ⟨y0, y1, y2, rfl⟩ : ∃ y0 y1 y2, xs = [y0, y1, y2] := by
  match xs, hlen with
  | [x, y, z], _ => exact ⟨x, y, z, rfl⟩
 have k0 : Tryz.prog.cellsOf 3 = 1 := by kernel_rfl
 have k1 : Tryz.prog.cellsOf 29 = 1 := by kernel_rfl
 have k2 : Tryz.prog.cellsOf 31 = 1 := by kernel_rfl
 have h0 : DataW.trod (H := Unit) (fun _ => ()) Tryz.prog w 0 sp held n 3 (([c0, c1, c2].drop 0).take (Tryz.prog.cellsOf 3)) = some y0 := hf 0 _ rfl
 have h1 : DataW.trod (H := Unit) (fun _ => ()) Tryz.prog w 0 sp held n 29 (([c0, c1, c2].drop 1).take (Tryz.prog.cellsOf 29)) = some y1 := hf 1 _ rfl
 have h2 : DataW.trod (H := Unit) (fun _ => ()) Tryz.prog w 0 sp held n 31 (([c0, c1, c2].drop 2).take (Tryz.prog.cellsOf 31)) = some y2 := hf 2 _ rfl
 rw [k0] at h0
 rw [k1] at h1
 rw [k2] at h2
 obtain ⟨n0, e0, rfl, _⟩ := DataW.trod_int Tryz.underlying3 h0
 obtain ⟨n1, e1, rfl, _⟩ := DataW.trod_int Tryz.underlying29 h1
 obtain ⟨n2, e2, rfl, _⟩ := DataW.trod_int Tryz.underlying31 h2
 simp at hx e0 e1 e2
 obtain ⟨⟨rfl, rfl, rfl⟩, _⟩ := hx
 rw [e0, e1, e2]
theorem cell_ltG {w : World} {p : Addr} {u : Value} (h : w.cell? p = some u) : p.block < w.heap.size := by
 rcases Nat.lt_or_ge p.block w.heap.size with h1 | h1
 . exact h1
 . have : w.heap[p.block]? = none := Array.getElem?_eq_none h1
   simp [World.cell?, this] at h
theorem row_cells {w : World} {name : String} {g : Nat} {cs : Array Value} {l : List (IntKind × Int)} (hg : Tryz.prog.globalNamed name = some g) (hv : w.var? Tryz.prog name = some cs) (hc : cs.toList = l.map fun x => Value.int x.1 x.2) (h0 : 0 < l.length) :
 g < w.heap.size /\ ∀ (j : Nat) (k : IntKind) (n : Int), l[j]? = some (k, n) -> w.cell? ⟨g, j, none⟩ = some (.int k n) := by
 have key : ∀ (j : Nat) (k : IntKind) (n : Int), l[j]? = some (k, n) -> w.cell? ⟨g, j, none⟩ = some (.int k n) := fun j k n hj => by
  rw [World.var?_cell hg hv, <- Array.getElem?_toList, hc, List.getElem?_map, hj]; rfl
 refine ⟨?_, key⟩
 obtain ⟨⟨k, n⟩, l', rfl⟩ : ∃ x l', l = x :: l' := by
  match l, h0 with
  | x :: l', _ => exact ⟨x, l', rfl⟩
 exact cell_ltG (key 0 k n rfl)
theorem glob_of {w : World} (h : laidMet Tryz.prog [("multihop/multihoplaw15.one", Rows.laid_multihop_multihoplaw15_one), ("multihop/multihoplaw15.two", Rows.laid_multihop_multihoplaw15_two)] w) : GlobOk (fun _ => False) w := by
 obtain ⟨ps, ⟨g, t, cs, fuel, p, q, hg, ht, hv, hd, ⟨g', t', cs', fuel', p', q', hg', ht', hv', hd', _, _⟩, _⟩, _, _⟩ := h
 have G0 : Tryz.prog.globalNamed "multihop/multihoplaw15.one" = some 0 := by kernel_rfl
 have G1 : Tryz.prog.globalNamed "multihop/multihoplaw15.two" = some 1 := by kernel_rfl
 have T0 : (Tryz.prog.globals[0]?).map (·.type) = some 33 := by kernel_rfl
 have T1 : (Tryz.prog.globals[1]?).map (·.type) = some 33 := by kernel_rfl
 obtain rfl := Option.some.inj (G0.symm.trans hg)
 obtain rfl := Option.some.inj (T0.symm.trans ht)
 obtain rfl := Option.some.inj (G1.symm.trans hg')
 obtain rfl := Option.some.inj (T1.symm.trans ht')
 have r0 := row_cells (l := [(.i64, 2), (.u16, 1), (.u64, 0)]) hg hv (adr_cells hd) (by decide)
 have r1 := row_cells (l := [(.i64, 2), (.u16, 2), (.u64, 0)]) hg' hv' (adr_cells hd') (by decide)
 intro p hp
 rcases List.mem_cons.1 hp with rfl | hp
 . exact ⟨r0.1, id, r0.2⟩
 . rcases List.mem_cons.1 hp with rfl | hp
   . exact ⟨r1.1, id, r1.2⟩
   . cases hp
end Go.Proofs.YtjknkfjhcapocaaGreatDoor.AX
namespace Go.Proofs.YtjknkfjhcapocaaGreatDoor
open Go.RowKit AX
theorem walkCompressEncodes (x0 : Array Value) (x1 : Array Value) (x2 : Array Value) (a3 : Option Addr) (len3 cap3 : Nat) (a4 : Int) (a5 : Option Addr) (len5 cap5 : Nat) (z5 : List Int) (w : World) (w0 : TailArg w ksPk .u8 1 x0) (w1 : Mt ksAdr x1.toList) (w2 : Mt ksAdr x2.toList) (w3 : IsRows w ksCtx a3 len3 cap3) (rr3 : len3 * 48 <= 140737488351232) (w4 : (Lit.int .i64 a4).wf = true) (w5 : IsRow .i64 w a5 len5 cap5 z5) (rr5 : cap5 * 8 <= 140737488351232) (hg : AX.GlobOk (fun _ => False) w) :
 Calls Tryz.prog 3 #[.agg x0, .agg x1, .agg x2, .slice a3 len3 cap3, .int .i64 a4, .slice a5 len5 cap5] w fun e w' => e = .returned (.bool true) /\ Below w.heap.size w w' := by
 obtain ⟨h, l, ⟨g, hgh, hh⟩, hl, hlen, hrel⟩ := tail_rel w0 (E := eHd) rfl ok_pk
 have hb := reachBytes_lt
 obtain ⟨f, hf, h1⟩ := flat_rel w1 (E := eAdr) (w := w) rfl ok_adr
 obtain ⟨t, ht, h2⟩ := flat_rel w2 (E := eAdr) (w := w) rfl ok_adr
 obtain ⟨raw, hn, hraw, h3⟩ := rows_rel w3 (E := eCtx) (by decide) rfl ok_ctx
 exact walk_of (cencodes_ok (h, l) (by rw [hh]; exact pk_wf hgh hl) (by show l.length <= _; omega) f t raw ⟨fun d hd => by_ctx (hraw d hd), by omega⟩ a4 len5 z5 (rng_of w5)) (relL_cons hrel (relL_cons h1 (relL_cons h2 (relL_cons h3 (relL_cons rfl (relL1 (row_rel w5))))))) hg
end Go.Proofs.YtjknkfjhcapocaaGreatDoor
