/- The contract of metric.Choose where all is valid. -/
import Derived.Test.YtolliidpmgncdaaMetChoose
namespace Go.Proofs.Ytolliidpmgncdaa
open Go.RowKit
set_option linter.unusedVariables false

theorem two_new (w2 : World) : Blk (((w2.alloc (.cells #[.int .u64 0, .int .i64 65535] 61)).alloc (.cells #[.int .u64 0, .int .i64 65535] 61)).alloc (.cells #[.int .u64 0, .int .i64 65535] 61)).drew (w2.heap.size + 1) 61 (optC noOpt) ∧ Blk (((w2.alloc (.cells #[.int .u64 0, .int .i64 65535] 61)).alloc (.cells #[.int .u64 0, .int .i64 65535] 61)).alloc (.cells #[.int .u64 0, .int .i64 65535] 61)).drew (w2.heap.size + 1 + 1) 61 (optC noOpt) := by
  have h1 := (Blk.new (w2.alloc (.cells #[.int .u64 0, .int .i64 65535] 61)) 61 [.int .u64 0, .int .i64 65535]).alloc (.cells #[.int .u64 0, .int .i64 65535] 61)
  have h2 := Blk.new ((w2.alloc (.cells #[.int .u64 0, .int .i64 65535] 61)).alloc (.cells #[.int .u64 0, .int .i64 65535] 61)) 61 [.int .u64 0, .int .i64 65535]
  rw [show (w2.alloc (.cells #[.int .u64 0, .int .i64 65535] 61)).heap.size = w2.heap.size + 1 from by simp] at h1
  rw [show ((w2.alloc (.cells #[.int .u64 0, .int .i64 65535] 61)).alloc (.cells #[.int .u64 0, .int .i64 65535] 61)).heap.size = w2.heap.size + 1 + 1 from by simp] at h2
  exact ⟨h1, h2⟩
theorem best_succ {l : List Opt} {k : Nat} (hk : k < l.length) : best (l.take (k + 1)) = bestStep (best (l.take k)) l[k] := by
  unfold best; rw [List.take_succ_eq_append_getElem hk, List.foldl_append]; rfl
theorem cur_succ (n : Int) {l : List Opt} {k : Nat} (hk : k < l.length) : cur n (l.take (k + 1)) = curStep n (cur n (l.take k)) l[k] := by
  unfold cur; rw [List.take_succ_eq_append_getElem hk, List.foldl_append]; rfl

set_option maxRecDepth 100000 in
set_option maxHeartbeats 8000000 in
theorem choose_good (now : Int) (old : Cho) (A : Option Addr) (cap n : Nat) (l : List Opt) (w : World) (hr : Row w A (ov l)) (hn : l.length = n) (hl : n ≤ 4611686018427387904)
    (hvc : validCho old = true) (hvo : validOpts l = true) (hvt : isTimeB now = true) :
    Calls Try.prog 39 #[.int .i64 now, choV old, .slice A n cap] w fun e w' => e = .returned (.tuple #[choV (choose now old l).1, .int .i64 (choose now old l).2]) ∧ Below w.heap.size w w' := by
  have HN := Lib.hid hn
  clear hn
  obtain ⟨r, hres⟩ : ∃ r, choose now old l = r := ⟨_, rfl⟩
  rw [hres]
  unfold choose at hres
  obtain ⟨on, oc, ob⟩ := old
  have hb0 := bel_alloc ((Below.refl _ _).alloc (Nat.le_refl w.heap.size) (.cells #[.int .u64 on, .int .i64 oc, .int .i64 ob] 63)) (.cells #[.int .u64 0, .int .i64 0, .int .i64 0] 63)
  have B4 := (Blk.new w 63 [.int .u64 on, .int .i64 oc, .int .i64 ob]).alloc (.cells #[.int .u64 0, .int .i64 0, .int .i64 0] 63)
  have B6 := Blk.new (w.alloc (.cells #[.int .u64 on, .int .i64 oc, .int .i64 ob] 63)) 63 [.int .u64 0, .int .i64 0, .int .i64 0]
  rw [show (w.alloc (.cells #[.int .u64 on, .int .i64 oc, .int .i64 ob] 63)).heap.size = w.heap.size + 1 from by simp] at B6
  change Calls _ _ #[_, .agg #[.int .u64 on, .int .i64 oc, .int .i64 ob], _] _ _
  generalize hW0 : ((w.alloc (.cells #[.int .u64 on, .int .i64 oc, .int .i64 ob] 63)).alloc (.cells #[.int .u64 0, .int .i64 0, .int .i64 0] 63)) = W0 at *
  have HW0 := Lib.hid hW0
  clear hW0
  rw [if_pos ⟨hvc, hvo⟩, if_pos hvt] at hres
  have HR := Lib.hid hres
  clear hres
  go_enter Try.func39, Try.ntmps39
  go_wp2_with fail
  rw [HW0.out]
  refine (mvalidCho_any ⟨on, oc, ob⟩ _).mono ?_
  rintro e w1 ⟨rfl, hb1⟩
  have hb01 := bel_trans hb0 hb1
  have B61 := B6.below hb1
  have B41 := B4.below hb1
  go_wp2_with fail
  refine (mvalidOpts_any A cap n l _ (hr.below hb01) HN.out hl).mono ?_
  rintro e w2 ⟨rfl, hb2⟩
  have hb02 := bel_trans hb01 hb2
  have B62 := B61.below hb2
  have B42 := B41.below hb2
  go_wp2_with fail
  refine (mtime_any _ _).mono ?_
  rintro e w3 ⟨rfl, rfl⟩
  have B8 := Blk.new w2 61 [.int .u64 0, .int .i64 65535]
  have B63 := B62.alloc (.cells #[.int .u64 0, .int .i64 65535] 61)
  have B43 := B42.alloc (.cells #[.int .u64 0, .int .i64 65535] 61)
  have hb03 := bel_alloc hb02 (.cells #[.int .u64 0, .int .i64 65535] 61)
  go_upto_region 6 with fail
  go_cut [9, 10] (fun s9 s10 wx => ∃ g9 g10 : Nat, s9 = .pointer (some ⟨g9, 0, none⟩) ∧ s10 = .pointer (some ⟨g10, 0, none⟩) ∧ g9 ≠ g10 ∧ w2.heap.size < g9 ∧ w2.heap.size < g10 ∧ Blk wx g9 61 (optC noOpt) ∧ Blk wx g10 61 (optC noOpt) ∧ Below (w2.alloc (.cells #[.int .u64 0, .int .i64 65535] 61)).heap.size (w2.alloc (.cells #[.int .u64 0, .int .i64 65535] 61)) wx)
  case first =>
    go_region
    all_goals go_wp2_with fail
    all_goals go_meet
    · exact ⟨w2.heap.size + 1, w2.heap.size + 1 + 1, rfl, rfl, by omega, by omega, by omega, (two_new w2).1, (two_new w2).2, (bel_alloc (bel_alloc (Below.refl _ _) _) _).drew⟩
    · exact ⟨w2.heap.size + 1 + 1, w2.heap.size + 1, rfl, rfl, by omega, by omega, by omega, (two_new w2).2, (two_new w2).1, (bel_alloc (bel_alloc (Below.refl _ _) _) _).drew⟩
  case rest =>
    obtain ⟨g9, g10, rfl, rfl, hne, hg9, hg10, K9, K10, hbc⟩ := hcut
    have hz0 : w.heap.size + 2 ≤ w2.heap.size := by
      have h1 := hb1.size
      have h2 := hb2.size
      have h3 : W0.heap.size = w.heap.size + 2 := by rw [← HW0.out]; simp
      omega
    have K4 := B43.below hbc
    have K6 := B63.below hbc
    have K8 := B8.below hbc
    have hb := bel_trans hb03 hbc
    clear B43 B63 B8 B42 B62 B41 B61 B4 B6 hb03 hbc hb02 hb01 hb2 hb1 hb0
    have hw9 : w.heap.size ≤ g9 := by omega
    have hw10 : w.heap.size ≤ g10 := by omega
    have n9_4 : w.heap.size ≠ g9 := by omega
    have n9_6 : w.heap.size + 1 ≠ g9 := by omega
    have n9_8 : w2.heap.size ≠ g9 := by omega
    have n9_10 : g10 ≠ g9 := by omega
    have n10_4 : w.heap.size ≠ g10 := by omega
    have n10_6 : w.heap.size + 1 ≠ g10 := by omega
    have n10_8 : w2.heap.size ≠ g10 := by omega
    have n10_9 : g9 ≠ g10 := by omega
    generalize w2.heap.size = g8 at *
    go_wp2_with fail
    go_loopw [32] (fun i wr => ∃ k : Nat, k ≤ n ∧ i = .int .i64 k ∧ Hid (Blk wr g9 61 (optC (best (l.take k))) ∧ Blk wr g10 61 (optC (cur on (l.take k))) ∧ Blk wr w.heap.size 63 [.int .u64 on, .int .i64 oc, .int .i64 ob] ∧ Blk wr (w.heap.size + 1) 63 [.int .u64 0, .int .i64 0, .int .i64 0] ∧ Blk wr g8 61 (optC noOpt)) ∧ Below w.heap.size w wr) (fun i _ => n - (intOf i).toNat)
    case atStart => exact ⟨0, by omega, rfl, Lib.hid ⟨K9, K10, K4, K6, K8⟩, hb⟩
    case round =>
      clear K9 K10 K4 K6 K8 hb
      obtain ⟨k, hk, rfl, HK, hb⟩ := hrel
      obtain ⟨K9, K10, K4, K6, K8⟩ := HK.out
      clear HK
      by_cases hkn : k < n
      · obtain ⟨b, off, rfl, hbl, hcs⟩ := opts_cells hr (by rw [HN.out]; omega)
        have hkl : k < l.length := by rw [HN.out]; exact hkn
        have hc1 := (hb.cell (p := ⟨b, off + k * 2, none⟩) hbl).trans (hcs k hkl).1
        have hc2 := (hb.cell (p := ⟨b, off + k * 2 + 1, none⟩) hbl).trans (hcs k hkl).2
        have HB := Lib.hid (best_succ hkl)
        have HC := Lib.hid (cur_succ on hkl)
        generalize l[k] = x at *
        obtain ⟨xn, xc⟩ := x
        dsimp only at hc1 hc2
        generalize best (l.take k) = bo at *
        generalize cur on (l.take k) = co at *
        obtain ⟨bn, bc⟩ := bo
        obtain ⟨cn, cc⟩ := co
        have n9_12 : wr.heap.size ≠ g9 := by have := K9.lt; omega
        have n10_12 : wr.heap.size ≠ g10 := by have := K10.lt; omega
        clear hcs hr
        by_cases hlt : xc < bc
        · by_cases hcu : xc < 65535 ∧ xn = on
          · have hS9 : best (l.take (k + 1)) = ⟨xn, xc⟩ := by rw [HB.out]; unfold bestStep; rw [if_pos hlt]
            have hS10 : cur on (l.take (k + 1)) = ⟨xn, xc⟩ := by rw [HC.out]; unfold curStep; rw [if_pos hcu]
            have HS9 := Lib.hid hS9
            have HS10 := Lib.hid hS10
            clear hS9 hS10 HB HC
            have hc91 : decide (xc < bc) = true := by simpa using hlt
            have k9c0 := (K9.alloc (.cells #[.int .u64 xn, .int .i64 xc] 61)).cell 0
            have k9f0 := (K9.alloc (.cells #[.int .u64 xn, .int .i64 xc] 61)).frozen 0
            have k9c1 := (K9.alloc (.cells #[.int .u64 xn, .int .i64 xc] 61)).cell 1
            have k9f1 := (K9.alloc (.cells #[.int .u64 xn, .int .i64 xc] 61)).frozen 1
            simp only [optC, List.getElem?_cons_zero, List.getElem?_cons_succ] at k9c0 k9c1
            have k12c0 := (((Blk.new wr 61 [.int .u64 xn, .int .i64 xc]).far (p := ⟨g9, 0, none⟩) n9_12 (.int .u64 xn)).far (p := ⟨g9, 1, none⟩) n9_12 (.int .i64 xc)).cell 0
            have k12c1 := (((Blk.new wr 61 [.int .u64 xn, .int .i64 xc]).far (p := ⟨g9, 0, none⟩) n9_12 (.int .u64 xn)).far (p := ⟨g9, 1, none⟩) n9_12 (.int .i64 xc)).cell 1
            simp only [List.getElem?_cons_zero, List.getElem?_cons_succ] at k12c0 k12c1
            have k10c0 := (((K10.alloc (.cells #[.int .u64 xn, .int .i64 xc] 61)).far (p := ⟨g9, 0, none⟩) n9_10 (.int .u64 xn)).far (p := ⟨g9, 1, none⟩) n9_10 (.int .i64 xc)).cell 0
            have k10f0 := (((K10.alloc (.cells #[.int .u64 xn, .int .i64 xc] 61)).far (p := ⟨g9, 0, none⟩) n9_10 (.int .u64 xn)).far (p := ⟨g9, 1, none⟩) n9_10 (.int .i64 xc)).frozen 0
            have k10c1 := (((K10.alloc (.cells #[.int .u64 xn, .int .i64 xc] 61)).far (p := ⟨g9, 0, none⟩) n9_10 (.int .u64 xn)).far (p := ⟨g9, 1, none⟩) n9_10 (.int .i64 xc)).cell 1
            have k10f1 := (((K10.alloc (.cells #[.int .u64 xn, .int .i64 xc] 61)).far (p := ⟨g9, 0, none⟩) n9_10 (.int .u64 xn)).far (p := ⟨g9, 1, none⟩) n9_10 (.int .i64 xc)).frozen 1
            simp only [optC, List.getElem?_cons_zero, List.getElem?_cons_succ] at k10c0 k10c1
            have k4c0 := (((K4.alloc (.cells #[.int .u64 xn, .int .i64 xc] 61)).far (p := ⟨g9, 0, none⟩) n9_4 (.int .u64 xn)).far (p := ⟨g9, 1, none⟩) n9_4 (.int .i64 xc)).cell 0
            simp only [List.getElem?_cons_zero] at k4c0
            have H9 := Lib.hid (((((K9.alloc (.cells #[.int .u64 xn, .int .i64 xc] 61)).set_ 0 (.int .u64 xn)).set_ 1 (.int .i64 xc)).far (p := ⟨g10, 0, none⟩) n10_9 (.int .u64 xn)).far (p := ⟨g10, 1, none⟩) n10_9 (.int .i64 xc))
            have H10 := Lib.hid (((((K10.alloc (.cells #[.int .u64 xn, .int .i64 xc] 61)).far (p := ⟨g9, 0, none⟩) n9_10 (.int .u64 xn)).far (p := ⟨g9, 1, none⟩) n9_10 (.int .i64 xc)).set_ 0 (.int .u64 xn)).set_ 1 (.int .i64 xc))
            have H4 := Lib.hid (((((K4.alloc (.cells #[.int .u64 xn, .int .i64 xc] 61)).far (p := ⟨g9, 0, none⟩) n9_4 (.int .u64 xn)).far (p := ⟨g9, 1, none⟩) n9_4 (.int .i64 xc)).far (p := ⟨g10, 0, none⟩) n10_4 (.int .u64 xn)).far (p := ⟨g10, 1, none⟩) n10_4 (.int .i64 xc))
            have H6 := Lib.hid (((((K6.alloc (.cells #[.int .u64 xn, .int .i64 xc] 61)).far (p := ⟨g9, 0, none⟩) n9_6 (.int .u64 xn)).far (p := ⟨g9, 1, none⟩) n9_6 (.int .i64 xc)).far (p := ⟨g10, 0, none⟩) n10_6 (.int .u64 xn)).far (p := ⟨g10, 1, none⟩) n10_6 (.int .i64 xc))
            have H8 := Lib.hid (((((K8.alloc (.cells #[.int .u64 xn, .int .i64 xc] 61)).far (p := ⟨g9, 0, none⟩) n9_8 (.int .u64 xn)).far (p := ⟨g9, 1, none⟩) n9_8 (.int .i64 xc)).far (p := ⟨g10, 0, none⟩) n10_8 (.int .u64 xn)).far (p := ⟨g10, 1, none⟩) n10_8 (.int .i64 xc))
            have hbe := (((((bel_alloc hb (.cells #[.int .u64 xn, .int .i64 xc] 61)).setCell (p := ⟨g9, 0, none⟩) hw9 (.int .u64 xn)).setCell (p := ⟨g9, 1, none⟩) hw9 (.int .i64 xc)).setCell (p := ⟨g10, 0, none⟩) hw10 (.int .u64 xn)).setCell (p := ⟨g10, 1, none⟩) hw10 (.int .i64 xc))
            have hx1 : decide (xc < 65535) = true := by simpa using hcu.1
            have hx2 : (xn == on) = true := by simp [hcu.2]
            clear hcu K9 K10 K4 K6 K8
            go_wp2_with fail
            go_roundw
            case rel => exact ⟨k + 1, by omega, by go_num, Lib.hid ⟨by rw [HS9.out]; exact H9.out, by rw [HS10.out]; exact H10.out, H4.out, H6.out, H8.out⟩, hbe⟩
            case measure => simp [intOf]; omega
          · have hS9 : best (l.take (k + 1)) = ⟨xn, xc⟩ := by rw [HB.out]; unfold bestStep; rw [if_pos hlt]
            have hS10 : cur on (l.take (k + 1)) = ⟨cn, cc⟩ := by rw [HC.out]; unfold curStep; rw [if_neg hcu]
            have HS9 := Lib.hid hS9
            have HS10 := Lib.hid hS10
            clear hS9 hS10 HB HC
            have hc91 : decide (xc < bc) = true := by simpa using hlt
            have k9c0 := (K9.alloc (.cells #[.int .u64 xn, .int .i64 xc] 61)).cell 0
            have k9f0 := (K9.alloc (.cells #[.int .u64 xn, .int .i64 xc] 61)).frozen 0
            have k9c1 := (K9.alloc (.cells #[.int .u64 xn, .int .i64 xc] 61)).cell 1
            have k9f1 := (K9.alloc (.cells #[.int .u64 xn, .int .i64 xc] 61)).frozen 1
            simp only [optC, List.getElem?_cons_zero, List.getElem?_cons_succ] at k9c0 k9c1
            have k12c0 := (((Blk.new wr 61 [.int .u64 xn, .int .i64 xc]).far (p := ⟨g9, 0, none⟩) n9_12 (.int .u64 xn)).far (p := ⟨g9, 1, none⟩) n9_12 (.int .i64 xc)).cell 0
            have k12c1 := (((Blk.new wr 61 [.int .u64 xn, .int .i64 xc]).far (p := ⟨g9, 0, none⟩) n9_12 (.int .u64 xn)).far (p := ⟨g9, 1, none⟩) n9_12 (.int .i64 xc)).cell 1
            simp only [List.getElem?_cons_zero, List.getElem?_cons_succ] at k12c0 k12c1
            have k10c0 := (((K10.alloc (.cells #[.int .u64 xn, .int .i64 xc] 61)).far (p := ⟨g9, 0, none⟩) n9_10 (.int .u64 xn)).far (p := ⟨g9, 1, none⟩) n9_10 (.int .i64 xc)).cell 0
            have k10f0 := (((K10.alloc (.cells #[.int .u64 xn, .int .i64 xc] 61)).far (p := ⟨g9, 0, none⟩) n9_10 (.int .u64 xn)).far (p := ⟨g9, 1, none⟩) n9_10 (.int .i64 xc)).frozen 0
            have k10c1 := (((K10.alloc (.cells #[.int .u64 xn, .int .i64 xc] 61)).far (p := ⟨g9, 0, none⟩) n9_10 (.int .u64 xn)).far (p := ⟨g9, 1, none⟩) n9_10 (.int .i64 xc)).cell 1
            have k10f1 := (((K10.alloc (.cells #[.int .u64 xn, .int .i64 xc] 61)).far (p := ⟨g9, 0, none⟩) n9_10 (.int .u64 xn)).far (p := ⟨g9, 1, none⟩) n9_10 (.int .i64 xc)).frozen 1
            simp only [optC, List.getElem?_cons_zero, List.getElem?_cons_succ] at k10c0 k10c1
            have k4c0 := (((K4.alloc (.cells #[.int .u64 xn, .int .i64 xc] 61)).far (p := ⟨g9, 0, none⟩) n9_4 (.int .u64 xn)).far (p := ⟨g9, 1, none⟩) n9_4 (.int .i64 xc)).cell 0
            simp only [List.getElem?_cons_zero] at k4c0
            have H9 := Lib.hid (((K9.alloc (.cells #[.int .u64 xn, .int .i64 xc] 61)).set_ 0 (.int .u64 xn)).set_ 1 (.int .i64 xc))
            have H10 := Lib.hid (((K10.alloc (.cells #[.int .u64 xn, .int .i64 xc] 61)).far (p := ⟨g9, 0, none⟩) n9_10 (.int .u64 xn)).far (p := ⟨g9, 1, none⟩) n9_10 (.int .i64 xc))
            have H4 := Lib.hid (((K4.alloc (.cells #[.int .u64 xn, .int .i64 xc] 61)).far (p := ⟨g9, 0, none⟩) n9_4 (.int .u64 xn)).far (p := ⟨g9, 1, none⟩) n9_4 (.int .i64 xc))
            have H6 := Lib.hid (((K6.alloc (.cells #[.int .u64 xn, .int .i64 xc] 61)).far (p := ⟨g9, 0, none⟩) n9_6 (.int .u64 xn)).far (p := ⟨g9, 1, none⟩) n9_6 (.int .i64 xc))
            have H8 := Lib.hid (((K8.alloc (.cells #[.int .u64 xn, .int .i64 xc] 61)).far (p := ⟨g9, 0, none⟩) n9_8 (.int .u64 xn)).far (p := ⟨g9, 1, none⟩) n9_8 (.int .i64 xc))
            have hbe := (((bel_alloc hb (.cells #[.int .u64 xn, .int .i64 xc] 61)).setCell (p := ⟨g9, 0, none⟩) hw9 (.int .u64 xn)).setCell (p := ⟨g9, 1, none⟩) hw9 (.int .i64 xc))
            by_cases hx : xc < 65535
            · have hx1 : decide (xc < 65535) = true := by simpa using hx
              have hx2 : (xn == on) = false := by simp; intro hh; exact hcu ⟨hx, hh⟩
              clear hcu K9 K10 K4 K6 K8
              go_wp2_with fail
              go_roundw
              case rel => exact ⟨k + 1, by omega, by go_num, Lib.hid ⟨by rw [HS9.out]; exact H9.out, by rw [HS10.out]; exact H10.out, H4.out, H6.out, H8.out⟩, hbe⟩
              case measure => simp [intOf]; omega
            · have hx1 : decide (xc < 65535) = false := by simpa using hx
              clear hcu K9 K10 K4 K6 K8
              go_wp2_with fail
              go_roundw
              case rel => exact ⟨k + 1, by omega, by go_num, Lib.hid ⟨by rw [HS9.out]; exact H9.out, by rw [HS10.out]; exact H10.out, H4.out, H6.out, H8.out⟩, hbe⟩
              case measure => simp [intOf]; omega
        · by_cases hcu : xc < 65535 ∧ xn = on
          · have hS9 : best (l.take (k + 1)) = ⟨bn, bc⟩ := by rw [HB.out]; unfold bestStep; rw [if_neg hlt]
            have hS10 : cur on (l.take (k + 1)) = ⟨xn, xc⟩ := by rw [HC.out]; unfold curStep; rw [if_pos hcu]
            have HS9 := Lib.hid hS9
            have HS10 := Lib.hid hS10
            clear hS9 hS10 HB HC
            have hc91 : decide (xc < bc) = false := by simpa using hlt
            have k9c0 := (K9.alloc (.cells #[.int .u64 xn, .int .i64 xc] 61)).cell 0
            have k9f0 := (K9.alloc (.cells #[.int .u64 xn, .int .i64 xc] 61)).frozen 0
            have k9c1 := (K9.alloc (.cells #[.int .u64 xn, .int .i64 xc] 61)).cell 1
            have k9f1 := (K9.alloc (.cells #[.int .u64 xn, .int .i64 xc] 61)).frozen 1
            simp only [optC, List.getElem?_cons_zero, List.getElem?_cons_succ] at k9c0 k9c1
            have k12c0 := (Blk.new wr 61 [.int .u64 xn, .int .i64 xc]).cell 0
            have k12c1 := (Blk.new wr 61 [.int .u64 xn, .int .i64 xc]).cell 1
            simp only [List.getElem?_cons_zero, List.getElem?_cons_succ] at k12c0 k12c1
            have k10c0 := (K10.alloc (.cells #[.int .u64 xn, .int .i64 xc] 61)).cell 0
            have k10f0 := (K10.alloc (.cells #[.int .u64 xn, .int .i64 xc] 61)).frozen 0
            have k10c1 := (K10.alloc (.cells #[.int .u64 xn, .int .i64 xc] 61)).cell 1
            have k10f1 := (K10.alloc (.cells #[.int .u64 xn, .int .i64 xc] 61)).frozen 1
            simp only [optC, List.getElem?_cons_zero, List.getElem?_cons_succ] at k10c0 k10c1
            have k4c0 := (K4.alloc (.cells #[.int .u64 xn, .int .i64 xc] 61)).cell 0
            simp only [List.getElem?_cons_zero] at k4c0
            have H9 := Lib.hid (((K9.alloc (.cells #[.int .u64 xn, .int .i64 xc] 61)).far (p := ⟨g10, 0, none⟩) n10_9 (.int .u64 xn)).far (p := ⟨g10, 1, none⟩) n10_9 (.int .i64 xc))
            have H10 := Lib.hid (((K10.alloc (.cells #[.int .u64 xn, .int .i64 xc] 61)).set_ 0 (.int .u64 xn)).set_ 1 (.int .i64 xc))
            have H4 := Lib.hid (((K4.alloc (.cells #[.int .u64 xn, .int .i64 xc] 61)).far (p := ⟨g10, 0, none⟩) n10_4 (.int .u64 xn)).far (p := ⟨g10, 1, none⟩) n10_4 (.int .i64 xc))
            have H6 := Lib.hid (((K6.alloc (.cells #[.int .u64 xn, .int .i64 xc] 61)).far (p := ⟨g10, 0, none⟩) n10_6 (.int .u64 xn)).far (p := ⟨g10, 1, none⟩) n10_6 (.int .i64 xc))
            have H8 := Lib.hid (((K8.alloc (.cells #[.int .u64 xn, .int .i64 xc] 61)).far (p := ⟨g10, 0, none⟩) n10_8 (.int .u64 xn)).far (p := ⟨g10, 1, none⟩) n10_8 (.int .i64 xc))
            have hbe := (((bel_alloc hb (.cells #[.int .u64 xn, .int .i64 xc] 61)).setCell (p := ⟨g10, 0, none⟩) hw10 (.int .u64 xn)).setCell (p := ⟨g10, 1, none⟩) hw10 (.int .i64 xc))
            have hx1 : decide (xc < 65535) = true := by simpa using hcu.1
            have hx2 : (xn == on) = true := by simp [hcu.2]
            clear hcu K9 K10 K4 K6 K8
            go_wp2_with fail
            go_roundw
            case rel => exact ⟨k + 1, by omega, by go_num, Lib.hid ⟨by rw [HS9.out]; exact H9.out, by rw [HS10.out]; exact H10.out, H4.out, H6.out, H8.out⟩, hbe⟩
            case measure => simp [intOf]; omega
          · have hS9 : best (l.take (k + 1)) = ⟨bn, bc⟩ := by rw [HB.out]; unfold bestStep; rw [if_neg hlt]
            have hS10 : cur on (l.take (k + 1)) = ⟨cn, cc⟩ := by rw [HC.out]; unfold curStep; rw [if_neg hcu]
            have HS9 := Lib.hid hS9
            have HS10 := Lib.hid hS10
            clear hS9 hS10 HB HC
            have hc91 : decide (xc < bc) = false := by simpa using hlt
            have k9c0 := (K9.alloc (.cells #[.int .u64 xn, .int .i64 xc] 61)).cell 0
            have k9f0 := (K9.alloc (.cells #[.int .u64 xn, .int .i64 xc] 61)).frozen 0
            have k9c1 := (K9.alloc (.cells #[.int .u64 xn, .int .i64 xc] 61)).cell 1
            have k9f1 := (K9.alloc (.cells #[.int .u64 xn, .int .i64 xc] 61)).frozen 1
            simp only [optC, List.getElem?_cons_zero, List.getElem?_cons_succ] at k9c0 k9c1
            have k12c0 := (Blk.new wr 61 [.int .u64 xn, .int .i64 xc]).cell 0
            have k12c1 := (Blk.new wr 61 [.int .u64 xn, .int .i64 xc]).cell 1
            simp only [List.getElem?_cons_zero, List.getElem?_cons_succ] at k12c0 k12c1
            have k10c0 := (K10.alloc (.cells #[.int .u64 xn, .int .i64 xc] 61)).cell 0
            have k10f0 := (K10.alloc (.cells #[.int .u64 xn, .int .i64 xc] 61)).frozen 0
            have k10c1 := (K10.alloc (.cells #[.int .u64 xn, .int .i64 xc] 61)).cell 1
            have k10f1 := (K10.alloc (.cells #[.int .u64 xn, .int .i64 xc] 61)).frozen 1
            simp only [optC, List.getElem?_cons_zero, List.getElem?_cons_succ] at k10c0 k10c1
            have k4c0 := (K4.alloc (.cells #[.int .u64 xn, .int .i64 xc] 61)).cell 0
            simp only [List.getElem?_cons_zero] at k4c0
            have H9 := Lib.hid (K9.alloc (.cells #[.int .u64 xn, .int .i64 xc] 61))
            have H10 := Lib.hid (K10.alloc (.cells #[.int .u64 xn, .int .i64 xc] 61))
            have H4 := Lib.hid (K4.alloc (.cells #[.int .u64 xn, .int .i64 xc] 61))
            have H6 := Lib.hid (K6.alloc (.cells #[.int .u64 xn, .int .i64 xc] 61))
            have H8 := Lib.hid (K8.alloc (.cells #[.int .u64 xn, .int .i64 xc] 61))
            have hbe := (bel_alloc hb (.cells #[.int .u64 xn, .int .i64 xc] 61))
            by_cases hx : xc < 65535
            · have hx1 : decide (xc < 65535) = true := by simpa using hx
              have hx2 : (xn == on) = false := by simp; intro hh; exact hcu ⟨hx, hh⟩
              clear hcu K9 K10 K4 K6 K8
              go_wp2_with fail
              go_roundw
              case rel => exact ⟨k + 1, by omega, by go_num, Lib.hid ⟨by rw [HS9.out]; exact H9.out, by rw [HS10.out]; exact H10.out, H4.out, H6.out, H8.out⟩, hbe⟩
              case measure => simp [intOf]; omega
            · have hx1 : decide (xc < 65535) = false := by simpa using hx
              clear hcu K9 K10 K4 K6 K8
              go_wp2_with fail
              go_roundw
              case rel => exact ⟨k + 1, by omega, by go_num, Lib.hid ⟨by rw [HS9.out]; exact H9.out, by rw [HS10.out]; exact H10.out, H4.out, H6.out, H8.out⟩, hbe⟩
              case measure => simp [intOf]; omega
      · have HF0 : Hid (r = (chosen now ⟨on, oc, ob⟩ (best (l.take k)) (cur on (l.take k)), 0)) := Lib.hid (by
          rw [List.take_of_length_le (by rw [HN.out]; omega)]; exact HR.out.symm)
        have HCZ : Hid ((cur on (l.take k)).n = 0 → (cur on (l.take k)).c = 65535) := Lib.hid (by
          rw [List.take_of_length_le (by rw [HN.out]; omega)]; exact cur_zero on hvo)
        have hbk : 0 ≤ (best (l.take k)).c ∧ (best (l.take k)).c ≤ 65535 := by
          rw [List.take_of_length_le (by rw [HN.out]; omega)]; exact best_ok hvo
        have hck : 0 ≤ (cur on (l.take k)).c ∧ (cur on (l.take k)).c ≤ 65535 := by
          rw [List.take_of_length_le (by rw [HN.out]; omega)]; exact cur_ok on hvo
        have hobk : -1 ≤ ob ∧ ob ≤ 1099511627776 := validCho_b hvc
        generalize best (l.take k) = bo at *
        generalize cur on (l.take k) = co at *
        obtain ⟨bn, bc⟩ := bo
        obtain ⟨cn, cc⟩ := co
        dsimp only at hbk hck
        clear hr HR HN
        have k9c0 := K9.cell 0
        have k9c1 := K9.cell 1
        simp only [optC, List.getElem?_cons_zero, List.getElem?_cons_succ] at k9c0 k9c1
        have k10c0 := K10.cell 0
        have k10c1 := K10.cell 1
        simp only [optC, List.getElem?_cons_zero, List.getElem?_cons_succ] at k10c0 k10c1
        have k8c0 := K8.cell 0
        have k8c1 := K8.cell 1
        simp only [optC, noOpt, List.getElem?_cons_zero, List.getElem?_cons_succ] at k8c0 k8c1
        have k4c2 := K4.cell 2
        simp only [List.getElem?_cons_zero, List.getElem?_cons_succ] at k4c2
        by_cases e1 : cn = 0 ∧ cc = 65535
        · have HF : Hid (r = (takeO ⟨bn, bc⟩ (-1), 0)) := Lib.hid (by rw [HF0.out]; unfold chosen; dsimp only; rw [if_pos e1])
          have t1 : (cn == 0) = true := by simp [e1.1]
          have t2 : (cc == 65535) = true := by simp [e1.2]
          clear e1 HF0 HCZ
          clear K9 K10 K4 K8
          go_wp2_with fail
          (with_reducible refine (take_any bn bc (-1) _).mono ?_)
          rintro e w9 ⟨rfl, hb9⟩
          have K69 := K6.below hb9
          have hb99 := bel_trans hb hb9
          have k6c0 := K69.cell 0
          have k6f0 := K69.frozen 0
          have k6c1 := K69.cell 1
          have k6f1 := K69.frozen 1
          have k6c2 := K69.cell 2
          have k6f2 := K69.frozen 2
          simp only [List.getElem?_cons_zero, List.getElem?_cons_succ] at k6c0 k6c1 k6c2
          go_wp2_with fail
          have BF := ((K69.set_ 0 (.int .u64 bn)).set_ 1 (.int .i64 bc)).set_ 2 (.int .i64 (-1))
          have hbF := (((hb99.setCell (p := ⟨w.heap.size + 1, 0, none⟩) (Nat.le_succ _) (.int .u64 bn)).setCell (p := ⟨w.heap.size + 1, 1, none⟩) (Nat.le_succ _) (.int .i64 bc)).setCell (p := ⟨w.heap.size + 1, 2, none⟩) (Nat.le_succ _) (.int .i64 (-1)))
          obtain ⟨wF, hwF⟩ : ∃ wF, ((w9.setCell ⟨w.heap.size + 1, 0, none⟩ (.int .u64 bn)).setCell ⟨w.heap.size + 1, 1, none⟩ (.int .i64 bc)).setCell ⟨w.heap.size + 1, 2, none⟩ (.int .i64 (-1)) = wF := ⟨_, rfl⟩
          rw [hwF] at BF hbF ⊢
          clear hwF
          have q0 := BF.cell 0
          have q1 := BF.cell 1
          have q2 := BF.cell 2
          simp only [List.set_cons_zero, List.set_cons_succ, List.getElem?_cons_zero, List.getElem?_cons_succ] at q0 q1 q2
          exact bodyPost_ret (v := .tuple #[.agg #[.int .u64 bn, .int .i64 bc, .int .i64 (-1)], .int .i64 0]) (by simp [results, Try.results39, go_sem, q0, q1, q2]) rfl ⟨by rw [HF.out]; rfl, hbF⟩
        · have hcn : ¬ cn = 0 := fun h => e1 ⟨h, HCZ.out h⟩
          have t1 : (cn == 0) = false := by simp [hcn]
          clear hcn
          by_cases e2 : bc = cc
          · have HF : Hid (r = (takeO ⟨cn, cc⟩ (-1), 0)) := Lib.hid (by rw [HF0.out]; unfold chosen; dsimp only; rw [if_neg e1, if_pos e2])
            have t2 : (bc == cc) = true := by simp [e2]
            clear e1 e2 HF0
            clear K9 K10 K4 K8
            go_wp2_with fail
            (with_reducible refine (take_any cn cc (-1) _).mono ?_)
            rintro e w9 ⟨rfl, hb9⟩
            have K69 := K6.below hb9
            have hb99 := bel_trans hb hb9
            have k6c0 := K69.cell 0
            have k6f0 := K69.frozen 0
            have k6c1 := K69.cell 1
            have k6f1 := K69.frozen 1
            have k6c2 := K69.cell 2
            have k6f2 := K69.frozen 2
            simp only [List.getElem?_cons_zero, List.getElem?_cons_succ] at k6c0 k6c1 k6c2
            go_wp2_with fail
            have BF := ((K69.set_ 0 (.int .u64 cn)).set_ 1 (.int .i64 cc)).set_ 2 (.int .i64 (-1))
            have hbF := (((hb99.setCell (p := ⟨w.heap.size + 1, 0, none⟩) (Nat.le_succ _) (.int .u64 cn)).setCell (p := ⟨w.heap.size + 1, 1, none⟩) (Nat.le_succ _) (.int .i64 cc)).setCell (p := ⟨w.heap.size + 1, 2, none⟩) (Nat.le_succ _) (.int .i64 (-1)))
            obtain ⟨wF, hwF⟩ : ∃ wF, ((w9.setCell ⟨w.heap.size + 1, 0, none⟩ (.int .u64 cn)).setCell ⟨w.heap.size + 1, 1, none⟩ (.int .i64 cc)).setCell ⟨w.heap.size + 1, 2, none⟩ (.int .i64 (-1)) = wF := ⟨_, rfl⟩
            rw [hwF] at BF hbF ⊢
            clear hwF
            have q0 := BF.cell 0
            have q1 := BF.cell 1
            have q2 := BF.cell 2
            simp only [List.set_cons_zero, List.set_cons_succ, List.getElem?_cons_zero, List.getElem?_cons_succ] at q0 q1 q2
            exact bodyPost_ret (v := .tuple #[.agg #[.int .u64 cn, .int .i64 cc, .int .i64 (-1)], .int .i64 0]) (by simp [results, Try.results39, go_sem, q0, q1, q2]) rfl ⟨by rw [HF.out]; rfl, hbF⟩
          · have t2 : (bc == cc) = false := by simp [e2]
            by_cases e3 : 256 ≤ cc - bc
            · have HF : Hid (r = (takeO ⟨bn, bc⟩ (-1), 0)) := Lib.hid (by rw [HF0.out]; unfold chosen; dsimp only; rw [if_neg e1, if_neg e2, if_pos e3])
              clear e1 e2 HF0
              clear K9 K10 K4 K8
              go_wp2_with fail
              (with_reducible refine (take_any bn bc (-1) _).mono ?_)
              rintro e w9 ⟨rfl, hb9⟩
              have K69 := K6.below hb9
              have hb99 := bel_trans hb hb9
              have k6c0 := K69.cell 0
              have k6f0 := K69.frozen 0
              have k6c1 := K69.cell 1
              have k6f1 := K69.frozen 1
              have k6c2 := K69.cell 2
              have k6f2 := K69.frozen 2
              simp only [List.getElem?_cons_zero, List.getElem?_cons_succ] at k6c0 k6c1 k6c2
              go_wp2_with fail
              have BF := ((K69.set_ 0 (.int .u64 bn)).set_ 1 (.int .i64 bc)).set_ 2 (.int .i64 (-1))
              have hbF := (((hb99.setCell (p := ⟨w.heap.size + 1, 0, none⟩) (Nat.le_succ _) (.int .u64 bn)).setCell (p := ⟨w.heap.size + 1, 1, none⟩) (Nat.le_succ _) (.int .i64 bc)).setCell (p := ⟨w.heap.size + 1, 2, none⟩) (Nat.le_succ _) (.int .i64 (-1)))
              obtain ⟨wF, hwF⟩ : ∃ wF, ((w9.setCell ⟨w.heap.size + 1, 0, none⟩ (.int .u64 bn)).setCell ⟨w.heap.size + 1, 1, none⟩ (.int .i64 bc)).setCell ⟨w.heap.size + 1, 2, none⟩ (.int .i64 (-1)) = wF := ⟨_, rfl⟩
              rw [hwF] at BF hbF ⊢
              clear hwF
              have q0 := BF.cell 0
              have q1 := BF.cell 1
              have q2 := BF.cell 2
              simp only [List.set_cons_zero, List.set_cons_succ, List.getElem?_cons_zero, List.getElem?_cons_succ] at q0 q1 q2
              exact bodyPost_ret (v := .tuple #[.agg #[.int .u64 bn, .int .i64 bc, .int .i64 (-1)], .int .i64 0]) (by simp [results, Try.results39, go_sem, q0, q1, q2]) rfl ⟨by rw [HF.out]; rfl, hbF⟩
            · by_cases e4 : ob = -1
              · have HF : Hid (r = (takeO ⟨cn, cc⟩ now, 0)) := Lib.hid (by rw [HF0.out]; unfold chosen; dsimp only; rw [if_neg e1, if_neg e2, if_neg e3, if_pos e4])
                have t4 : (ob == -1) = true := by simp [e4]
                clear e1 e2 e4 HF0
                clear K9 K10 K4 K8
                go_wp2_with fail
                (with_reducible refine (take_any cn cc now _).mono ?_)
                rintro e w9 ⟨rfl, hb9⟩
                have K69 := K6.below hb9
                have hb99 := bel_trans hb hb9
                have k6c0 := K69.cell 0
                have k6f0 := K69.frozen 0
                have k6c1 := K69.cell 1
                have k6f1 := K69.frozen 1
                have k6c2 := K69.cell 2
                have k6f2 := K69.frozen 2
                simp only [List.getElem?_cons_zero, List.getElem?_cons_succ] at k6c0 k6c1 k6c2
                go_wp2_with fail
                have BF := ((K69.set_ 0 (.int .u64 cn)).set_ 1 (.int .i64 cc)).set_ 2 (.int .i64 now)
                have hbF := (((hb99.setCell (p := ⟨w.heap.size + 1, 0, none⟩) (Nat.le_succ _) (.int .u64 cn)).setCell (p := ⟨w.heap.size + 1, 1, none⟩) (Nat.le_succ _) (.int .i64 cc)).setCell (p := ⟨w.heap.size + 1, 2, none⟩) (Nat.le_succ _) (.int .i64 now))
                obtain ⟨wF, hwF⟩ : ∃ wF, ((w9.setCell ⟨w.heap.size + 1, 0, none⟩ (.int .u64 cn)).setCell ⟨w.heap.size + 1, 1, none⟩ (.int .i64 cc)).setCell ⟨w.heap.size + 1, 2, none⟩ (.int .i64 now) = wF := ⟨_, rfl⟩
                rw [hwF] at BF hbF ⊢
                clear hwF
                have q0 := BF.cell 0
                have q1 := BF.cell 1
                have q2 := BF.cell 2
                simp only [List.set_cons_zero, List.set_cons_succ, List.getElem?_cons_zero, List.getElem?_cons_succ] at q0 q1 q2
                exact bodyPost_ret (v := .tuple #[.agg #[.int .u64 cn, .int .i64 cc, .int .i64 now], .int .i64 0]) (by simp [results, Try.results39, go_sem, q0, q1, q2]) rfl ⟨by rw [HF.out]; rfl, hbF⟩
              · have t4 : (ob == -1) = false := by simp [e4]
                by_cases e5 : ob + 6 ≤ now
                · have HF : Hid (r = (takeO ⟨bn, bc⟩ (-1), 0)) := Lib.hid (by rw [HF0.out]; unfold chosen; dsimp only; rw [if_neg e1, if_neg e2, if_neg e3, if_neg e4, if_pos e5])
                  clear e1 e2 e4 HF0
                  clear K9 K10 K4 K8
                  go_wp2_with fail
                  (with_reducible refine (take_any bn bc (-1) _).mono ?_)
                  rintro e w9 ⟨rfl, hb9⟩
                  have K69 := K6.below hb9
                  have hb99 := bel_trans hb hb9
                  have k6c0 := K69.cell 0
                  have k6f0 := K69.frozen 0
                  have k6c1 := K69.cell 1
                  have k6f1 := K69.frozen 1
                  have k6c2 := K69.cell 2
                  have k6f2 := K69.frozen 2
                  simp only [List.getElem?_cons_zero, List.getElem?_cons_succ] at k6c0 k6c1 k6c2
                  go_wp2_with fail
                  have BF := ((K69.set_ 0 (.int .u64 bn)).set_ 1 (.int .i64 bc)).set_ 2 (.int .i64 (-1))
                  have hbF := (((hb99.setCell (p := ⟨w.heap.size + 1, 0, none⟩) (Nat.le_succ _) (.int .u64 bn)).setCell (p := ⟨w.heap.size + 1, 1, none⟩) (Nat.le_succ _) (.int .i64 bc)).setCell (p := ⟨w.heap.size + 1, 2, none⟩) (Nat.le_succ _) (.int .i64 (-1)))
                  obtain ⟨wF, hwF⟩ : ∃ wF, ((w9.setCell ⟨w.heap.size + 1, 0, none⟩ (.int .u64 bn)).setCell ⟨w.heap.size + 1, 1, none⟩ (.int .i64 bc)).setCell ⟨w.heap.size + 1, 2, none⟩ (.int .i64 (-1)) = wF := ⟨_, rfl⟩
                  rw [hwF] at BF hbF ⊢
                  clear hwF
                  have q0 := BF.cell 0
                  have q1 := BF.cell 1
                  have q2 := BF.cell 2
                  simp only [List.set_cons_zero, List.set_cons_succ, List.getElem?_cons_zero, List.getElem?_cons_succ] at q0 q1 q2
                  exact bodyPost_ret (v := .tuple #[.agg #[.int .u64 bn, .int .i64 bc, .int .i64 (-1)], .int .i64 0]) (by simp [results, Try.results39, go_sem, q0, q1, q2]) rfl ⟨by rw [HF.out]; rfl, hbF⟩
                · have HF : Hid (r = (takeO ⟨cn, cc⟩ ob, 0)) := Lib.hid (by rw [HF0.out]; unfold chosen; dsimp only; rw [if_neg e1, if_neg e2, if_neg e3, if_neg e4, if_neg e5])
                  clear e1 e2 e4 HF0
                  clear K9 K10 K4 K8
                  go_wp2_with fail
                  (with_reducible refine (take_any cn cc ob _).mono ?_)
                  rintro e w9 ⟨rfl, hb9⟩
                  have K69 := K6.below hb9
                  have hb99 := bel_trans hb hb9
                  have k6c0 := K69.cell 0
                  have k6f0 := K69.frozen 0
                  have k6c1 := K69.cell 1
                  have k6f1 := K69.frozen 1
                  have k6c2 := K69.cell 2
                  have k6f2 := K69.frozen 2
                  simp only [List.getElem?_cons_zero, List.getElem?_cons_succ] at k6c0 k6c1 k6c2
                  go_wp2_with fail
                  have BF := ((K69.set_ 0 (.int .u64 cn)).set_ 1 (.int .i64 cc)).set_ 2 (.int .i64 ob)
                  have hbF := (((hb99.setCell (p := ⟨w.heap.size + 1, 0, none⟩) (Nat.le_succ _) (.int .u64 cn)).setCell (p := ⟨w.heap.size + 1, 1, none⟩) (Nat.le_succ _) (.int .i64 cc)).setCell (p := ⟨w.heap.size + 1, 2, none⟩) (Nat.le_succ _) (.int .i64 ob))
                  obtain ⟨wF, hwF⟩ : ∃ wF, ((w9.setCell ⟨w.heap.size + 1, 0, none⟩ (.int .u64 cn)).setCell ⟨w.heap.size + 1, 1, none⟩ (.int .i64 cc)).setCell ⟨w.heap.size + 1, 2, none⟩ (.int .i64 ob) = wF := ⟨_, rfl⟩
                  rw [hwF] at BF hbF ⊢
                  clear hwF
                  have q0 := BF.cell 0
                  have q1 := BF.cell 1
                  have q2 := BF.cell 2
                  simp only [List.set_cons_zero, List.set_cons_succ, List.getElem?_cons_zero, List.getElem?_cons_succ] at q0 q1 q2
                  exact bodyPost_ret (v := .tuple #[.agg #[.int .u64 cn, .int .i64 cc, .int .i64 ob], .int .i64 0]) (by simp [results, Try.results39, go_sem, q0, q1, q2]) rfl ⟨by rw [HF.out]; rfl, hbF⟩
end Go.Proofs.Ytolliidpmgncdaa
