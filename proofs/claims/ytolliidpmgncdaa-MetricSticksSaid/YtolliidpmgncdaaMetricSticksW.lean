/- The walk of MetricSticks. -/
import Derived.Test.YtolliidpmgncdaaMetKnown
namespace Go.Proofs.Ytolliidpmgncdaa
open Go.RowKit
set_option linter.unusedVariables false
attribute [local go_sem ↓] Go.wp_at_zero Go.wp_at_succ

theorem stick_valid {cost less : Int} (hc : 1000 ≤ cost ∧ cost < 2000) (hl : 1 ≤ less ∧ less ≤ 255) : validOpts [⟨3, cost - less⟩, ⟨7, cost⟩] = true ∧ best [⟨3, cost - less⟩, ⟨7, cost⟩] = ⟨3, cost - less⟩ ∧ cur 7 [⟨3, cost - less⟩, ⟨7, cost⟩] = ⟨7, cost⟩ := by
  refine ⟨?_, ?_, ?_⟩
  · simp [validOpts, validFrom, validC]; omega
  · have e1 : bestStep noOpt ⟨3, cost - less⟩ = ⟨3, cost - less⟩ := if_pos (show cost - less < 65535 by omega)
    have e2 : bestStep ⟨3, cost - less⟩ ⟨7, cost⟩ = ⟨3, cost - less⟩ := if_neg (show ¬ cost < cost - less by omega)
    show bestStep (bestStep noOpt ⟨3, cost - less⟩) ⟨7, cost⟩ = _
    rw [e1, e2]
  · have e2 : curStep 7 (curStep 7 noOpt ⟨3, cost - less⟩) ⟨7, cost⟩ = ⟨7, cost⟩ := if_pos (show cost < 65535 ∧ (7 : Int) = 7 by omega)
    exact e2
theorem stick_a {cost less now : Int} (hc : 1000 ≤ cost ∧ cost < 2000) (hl : 1 ≤ less ∧ less ≤ 255) (hn : 0 ≤ now ∧ now < 1048576) :
    choose now ⟨7, cost, -1⟩ [⟨3, cost - less⟩, ⟨7, cost⟩] = (⟨7, cost, now⟩, 0) := by
  obtain ⟨h1, h2, h3⟩ := stick_valid hc hl
  have hv : validCho ⟨7, cost, -1⟩ = true := by simp [validCho, validC]; omega
  unfold choose
  rw [if_pos ⟨hv, h1⟩, if_pos (isTimeB_iff.2 (by omega))]
  dsimp only
  rw [h2, h3]
  unfold chosen takeO
  dsimp only
  rw [if_neg (by omega), if_neg (by omega), if_neg (by omega), if_pos rfl]
theorem stick_b {cost less now later : Int} (hc : 1000 ≤ cost ∧ cost < 2000) (hl : 1 ≤ less ∧ less ≤ 255) (hn : 0 ≤ now ∧ now < 1048576) (ht : 0 ≤ later ∧ later < 6) :
    choose (now + later) ⟨7, cost, now⟩ [⟨3, cost - less⟩, ⟨7, cost⟩] = (⟨7, cost, now⟩, 0) := by
  obtain ⟨h1, h2, h3⟩ := stick_valid hc hl
  have hv : validCho ⟨7, cost, now⟩ = true := by simp [validCho, validC, isTimeB]; omega
  unfold choose
  rw [if_pos ⟨hv, h1⟩, if_pos (isTimeB_iff.2 (by omega))]
  dsimp only
  rw [h2, h3]
  unfold chosen takeO
  dsimp only
  rw [if_neg (by omega), if_neg (by omega), if_neg (by omega), if_neg (by omega), if_neg (by omega)]
theorem stick_c {cost less now : Int} (hc : 1000 ≤ cost ∧ cost < 2000) (hl : 1 ≤ less ∧ less ≤ 255) (hn : 0 ≤ now ∧ now < 1048576) :
    choose (now + 6) ⟨7, cost, now⟩ [⟨3, cost - less⟩, ⟨7, cost⟩] = (⟨3, cost - less, -1⟩, 0) := by
  obtain ⟨h1, h2, h3⟩ := stick_valid hc hl
  have hv : validCho ⟨7, cost, now⟩ = true := by simp [validCho, validC, isTimeB]; omega
  unfold choose
  rw [if_pos ⟨hv, h1⟩, if_pos (isTimeB_iff.2 (by omega))]
  dsimp only
  rw [h2, h3]
  unfold chosen takeO
  dsimp only
  rw [if_neg (by omega), if_neg (by omega), if_neg (by omega), if_neg (by omega), if_pos (by omega)]

set_option maxRecDepth 100000 in
set_option maxHeartbeats 2000000 in
theorem walkMetricSticks (a0 : Int) (a1 : Int) (a2 : Int) (a3 : Int) (w : World) (w0 : (Lit.int .i64 a0).wf = true) (w1 : (Lit.int .i64 a1).wf = true) (w2 : (Lit.int .i64 a2).wf = true) (w3 : (Lit.int .i64 a3).wf = true) :
    Calls Try.prog 11 #[.int .i64 a0, .int .i64 a1, .int .i64 a2, .int .i64 a3] w fun e w' => e = .returned (.bool true) ∧ Below w.heap.size w w' := by
  have b0 := bounds_i64 w0
  have b1 := bounds_i64 w1
  have b2 := bounds_i64 w2
  have b3 := bounds_i64 w3
  clear w0 w1 w2 w3
  have m0 := Int.emod_nonneg a0 (show (1000 : Int) ≠ 0 by omega)
  have m1 := Int.emod_nonneg a1 (show (255 : Int) ≠ 0 by omega)
  have m2 := Int.emod_nonneg a2 (show (1048576 : Int) ≠ 0 by omega)
  have n0 := Int.emod_lt_of_pos a0 (show (0 : Int) < 1000 by omega)
  have n1 := Int.emod_lt_of_pos a1 (show (0 : Int) < 255 by omega)
  have n2 := Int.emod_lt_of_pos a2 (show (0 : Int) < 1048576 by omega)
  go_enter Try.func11, Try.ntmps11
  go_wp2_with (go_at_call 19; refine (mod_any _ _ (by omega) (by omega) (by omega) _).mono ?_; rintro e w' ⟨rfl, rfl⟩)
  obtain ⟨cost, hcost⟩ : ∃ c, 1000 + a0 % 1000 = c := ⟨_, rfl⟩
  obtain ⟨less, hless⟩ : ∃ c, 1 + a1 % 255 = c := ⟨_, rfl⟩
  obtain ⟨now, hnow⟩ : ∃ c, a2 % 1048576 = c := ⟨_, rfl⟩
  have hc : 1000 ≤ cost ∧ cost < 2000 := by omega
  have hl : 1 ≤ less ∧ less ≤ 255 := by omega
  have hn : 0 ≤ now ∧ now < 1048576 := by omega
  rw [hcost, hless, hnow]
  clear hcost hless hnow m0 m1 m2 n0 n1 n2 b0 b1 b2
  have HA := Lib.hid (stick_a hc hl hn)
  have HR := Lib.hid (row_new w 61 (ov [⟨3, cost - less⟩, ⟨7, cost⟩]))
  refine (choose_any now ⟨7, cost, -1⟩ _ 2 2 [⟨3, cost - less⟩, ⟨7, cost⟩] _ HR.out rfl (by omega)).mono ?_
  rintro e w1 ⟨rfl, hb1⟩
  rw [HA.out]
  unfold choV
  have HR1 := Lib.hid (HR.out.below hb1)
  have hb01 := bel_trans ((Below.refl _ _).alloc (Nat.le_refl _) _) hb1
  clear hb1
  go_upto_region 6 with fail
  have B10 := Blk.new w1 63 [.int .u64 7, .int .i64 cost, .int .i64 now]
  have hb02 := bel_alloc hb01 (.cells #[.int .u64 7, .int .i64 cost, .int .i64 now] 63)
  have HR2 := Lib.hid (HR1.out.alloc (.cells #[.int .u64 7, .int .i64 cost, .int .i64 now] 63))
  obtain ⟨W, hW⟩ : ∃ W, w1.alloc (.cells #[.int .u64 7, .int .i64 cost, .int .i64 now] 63) = W := ⟨_, rfl⟩
  rw [hW] at B10 hb02 HR2 ⊢
  clear hW HR1 HR HA hb01
  have HKS : Hid (∀ W', Below W.heap.size W W' → Below W.heap.size W W' ∧ W'.cell? ⟨w1.heap.size, 0, none⟩ = some (.int .u64 7) ∧ W'.cell? ⟨w1.heap.size, 1, none⟩ = some (.int .i64 cost) ∧ W'.cell? ⟨w1.heap.size, 2, none⟩ = some (.int .i64 now)) :=
    Lib.hid (fun W' hB => ⟨hB, (B10.below hB).cell 0, (B10.below hB).cell 1, (B10.below hB).cell 2⟩)
  have m3 := Int.emod_nonneg a3 (show (6 : Int) ≠ 0 by omega)
  have n3 := Int.emod_lt_of_pos a3 (show (0 : Int) < 6 by omega)
  have HSB := Lib.hid (stick_b (later := a3 % 6) hc hl hn ⟨m3, n3⟩)
  have hwr : IntKind.i64.wrap (now + a3 % 6) = now + a3 % 6 := IntWalk.i64_in _ (by omega)
  go_cut [12, 13] (fun s12 s13 wx => ∃ g12 : Nat, s12 = .pointer (some ⟨g12, 0, none⟩) ∧ s13 = .int .i64 0 ∧ Blk wx g12 63 [.int .u64 7, .int .i64 cost, .int .i64 now] ∧ Below W.heap.size W wx)
  case first =>
    go_region_held3 (fun W' => Below W.heap.size W W' ∧ W'.cell? ⟨w1.heap.size, 0, none⟩ = some (.int .u64 7) ∧ W'.cell? ⟨w1.heap.size, 1, none⟩ = some (.int .i64 cost) ∧ W'.cell? ⟨w1.heap.size, 2, none⟩ = some (.int .i64 now))
      (first | (with_reducible assumption) | (with_reducible exact HKS.out _ (Below.refl _ _).drew) | (with_reducible exact HKS.out _ hB3) | (with_reducible exact HKS.out _ (bel_alloc hB3 _)) | (with_reducible exact HKS.out _ (((hB3.setCell (Nat.le_refl _) _).setCell (Nat.le_refl _) _).setCell (Nat.le_refl _) _)) | (with_reducible exact HKS.out _ (bel_alloc (‹Below _ _ _ ∧ _›).1 _)))
      (first
        | (go_at_call 19; (with_reducible refine (mod_any _ _ ?_ ?_ ?_ _).mono ?_); (focus omega); (focus omega); (focus omega); rintro e w' ⟨rfl, rfl⟩; dsimp only)
        | (go_at_call 39; (with_reducible refine (choose_ag HSB.out ?_ ?_ ?_).mono ?_); (focus exact HR2.out.below (‹Below _ _ _ ∧ _›).1); (focus rfl); (focus omega); rintro e w3 ⟨rfl, hb3⟩; have hB3 := bel_trans (‹Below _ _ _ ∧ _›).1 hb3; (first | (have Bz := Blk.below (Blk.drew (Blk.new W 63 [.int .u64 0, .int .i64 0, .int .i64 0])) hb3; have z0 := Bz.cell 0; have z1 := Bz.cell 1; have z2 := Bz.cell 2; have y0 := Bz.frozen 0; have y1 := Bz.frozen 1; have y2 := Bz.frozen 2; simp only [List.getElem?_cons_zero, List.getElem?_cons_succ] at z0 z1 z2) | skip); dsimp only))
    all_goals go_wp2_with fail
    all_goals go_meet
    · exact ⟨w3.heap.size, rfl, rfl, Blk.new w3 _ _, bel_alloc hB3 _⟩
    · exact ⟨W.heap.size, rfl, rfl, ((Bz.set_ 0 _).set_ 1 _).set_ 2 _, ((hB3.setCell (Nat.le_refl _) _).setCell (Nat.le_refl _) _).setCell (Nat.le_refl _) _⟩
    · exact ⟨W.heap.size, rfl, rfl, ((Bz.set_ 0 _).set_ 1 _).set_ 2 _, ((hB3.setCell (Nat.le_refl _) _).setCell (Nat.le_refl _) _).setCell (Nat.le_refl _) _⟩
  case rest =>
    obtain ⟨g12, rfl, rfl, B12, hbx⟩ := hcut
    have HSC := Lib.hid (stick_c hc hl hn)
    have B10x := B10.below hbx
    have c120 := B12.cell 0
    have c121 := B12.cell 1
    have c122 := B12.cell 2
    simp only [List.getElem?_cons_zero, List.getElem?_cons_succ] at c120 c121 c122
    clear HSB hwr HKS
    go_wp2_with fail
    (with_reducible refine (choose_ag HSC.out (HR2.out.below hbx) ?_ ?_).mono ?_)
    · rfl
    · omega
    rintro e w4 ⟨rfl, hb4⟩
    have B10y := B10x.below hb4
    have B12y := B12.below hb4
    have d0 := (B10y.alloc (.cells #[.int .u64 3, .int .i64 (cost - less), .int .i64 (-1)] 63)).cell 0
    have d1 := (B10y.alloc (.cells #[.int .u64 3, .int .i64 (cost - less), .int .i64 (-1)] 63)).cell 1
    have d2 := (B10y.alloc (.cells #[.int .u64 3, .int .i64 (cost - less), .int .i64 (-1)] 63)).cell 2
    have e0 := (B12y.alloc (.cells #[.int .u64 3, .int .i64 (cost - less), .int .i64 (-1)] 63)).cell 0
    have e1 := (B12y.alloc (.cells #[.int .u64 3, .int .i64 (cost - less), .int .i64 (-1)] 63)).cell 1
    have e2 := (B12y.alloc (.cells #[.int .u64 3, .int .i64 (cost - less), .int .i64 (-1)] 63)).cell 2
    simp only [List.getElem?_cons_zero, List.getElem?_cons_succ] at d0 d1 d2 e0 e1 e2
    clear c120 c121 c122 HSC
    have hbz := bel_alloc (bel_trans (bel_trans hb02 hbx) hb4) (.cells #[.int .u64 3, .int .i64 (cost - less), .int .i64 (-1)] 63)
    go_wp2_with fail
    refine (mknown_any _).mono ?_
    rintro e w5 ⟨rfl, hb5⟩
    go_wp2_with fail
    go_ret
    exact ⟨rfl, bel_trans hbz hb5⟩
end Go.Proofs.Ytolliidpmgncdaa
