/- The contract of metric.Choose. -/
import Derived.Test.YtolliidpmgncdaaMetOpts
import Derived.Deep.DeepCutAuto
import Derived.RegionTactic
namespace Go.Proofs.Ytolliidpmgncdaa
open Go.RowKit
set_option linter.unusedVariables false

def choC (x : Cho) : List Value := [.int .u64 x.n, .int .i64 x.c, .int .i64 x.b]
def optC (x : Opt) : List Value := [.int .u64 x.n, .int .i64 x.c]
def optV (x : Opt) : Value := .agg #[.int .u64 x.n, .int .i64 x.c]

theorem take_any (n c b : Int) (w : World) : Calls Try.prog 56 #[.agg #[.int .u64 n, .int .i64 c], .int .i64 b] w fun e w' => e = .returned (.tuple #[.agg #[.int .u64 n, .int .i64 c, .int .i64 b], .int .i64 0]) ∧ Below w.heap.size w w' := by
  go_enter Try.func56, Try.ntmps56
  go_wp2_with fail
  exact bodyPost_ret (v := .tuple #[.agg #[.int .u64 n, .int .i64 c, .int .i64 b], .int .i64 0]) (by simp [results, Try.results56, go_sem]) rfl ⟨rfl, bel_alloc ((Below.refl _ _).alloc (Nat.le_refl _) _) _⟩

set_option maxRecDepth 100000 in
set_option maxHeartbeats 2000000 in
theorem choose_bad (now : Int) (old : Cho) (A : Option Addr) (cap n : Nat) (l : List Opt) (w : World) (hr : Row w A (ov l)) (hn : l.length = n) (hl : n ≤ 4611686018427387904)
    (hbad : validCho old = false ∨ validOpts l = false ∨ isTimeB now = false) :
    Calls Try.prog 39 #[.int .i64 now, choV old, .slice A n cap] w fun e w' => e = .returned (.tuple #[choV (choose now old l).1, .int .i64 (choose now old l).2]) ∧ Below w.heap.size w w' := by
  have HN := Lib.hid hn
  clear hn
  obtain ⟨r, hres⟩ : ∃ r, choose now old l = r := ⟨_, rfl⟩
  rw [hres]
  unfold choose at hres
  obtain ⟨on, oc, ob⟩ := old
  have hb0 := bel_alloc ((Below.refl _ _).alloc (Nat.le_refl w.heap.size) (.cells #[.int .u64 on, .int .i64 oc, .int .i64 ob] 63)) (.cells #[.int .u64 0, .int .i64 0, .int .i64 0] 63)
  have B4 := (Blk.new w 63 [.int .u64 on, .int .i64 oc, .int .i64 ob]).alloc (.cells #[.int .u64 0, .int .i64 0, .int .i64 0] 63)
  have B6 := Blk.new (w.alloc (.cells #[.int .u64 on, .int .i64 oc, .int .i64 ob] 63)) 63 [.int .u64 0, .int .i64 0, .int .i64 0]
  rw [show (w.alloc (.cells #[.int .u64 on, .int .i64 oc, .int .i64 ob] 63)).heap.size = w.heap.size + 1 from by simp] at B6
  change Calls _ _ #[_, .agg #[.int .u64 on, .int .i64 oc, .int .i64 ob], _] _ _
  generalize hW0 : ((w.alloc (.cells #[.int .u64 on, .int .i64 oc, .int .i64 ob] 63)).alloc (.cells #[.int .u64 0, .int .i64 0, .int .i64 0] 63)) = W0 at *
  have HW0 := Lib.hid hW0
  clear hW0
  cases hvc : validCho ⟨on, oc, ob⟩
  · rw [if_neg (by simp [hvc])] at hres
    subst hres
    go_enter Try.func39, Try.ntmps39
    go_wp2_with fail
    rw [HW0.out]
    refine (mvalidCho_any ⟨on, oc, ob⟩ _).mono ?_
    rintro e w1 ⟨rfl, hb1⟩
    have hb01 := bel_trans hb0 hb1
    have B61 := B6.below hb1
    have B41 := B4.below hb1
    have c6c0 := B61.cell 0
    have c6f0 := B61.frozen 0
    have c6c1 := B61.cell 1
    have c6f1 := B61.frozen 1
    have c6c2 := B61.cell 2
    have c6f2 := B61.frozen 2
    simp only [List.getElem?_cons_zero, List.getElem?_cons_succ] at c6c0 c6c1 c6c2
    go_wp2_with fail
    have BF := ((B61.set_ 0 (.int .u64 0)).set_ 1 (.int .i64 0)).set_ 2 (.int .i64 0)
    have hbF := (((hb01.setCell (p := ⟨w.heap.size + 1, 0, none⟩) (Nat.le_succ _) (.int .u64 0)).setCell (p := ⟨w.heap.size + 1, 1, none⟩) (Nat.le_succ _) (.int .i64 0)).setCell (p := ⟨w.heap.size + 1, 2, none⟩) (Nat.le_succ _) (.int .i64 0))
    obtain ⟨wF, hwF⟩ : ∃ wF, ((w1.setCell ⟨w.heap.size + 1, 0, none⟩ (.int .u64 0)).setCell ⟨w.heap.size + 1, 1, none⟩ (.int .i64 0)).setCell ⟨w.heap.size + 1, 2, none⟩ (.int .i64 0) = wF := ⟨_, rfl⟩
    rw [hwF] at BF hbF ⊢
    clear hwF
    have q0 := BF.cell 0
    have q1 := BF.cell 1
    have q2 := BF.cell 2
    simp only [List.set_cons_zero, List.set_cons_succ, List.getElem?_cons_zero, List.getElem?_cons_succ] at q0 q1 q2
    exact bodyPost_ret (v := .tuple #[.agg #[.int .u64 0, .int .i64 0, .int .i64 0], .int .i64 1]) (by simp [results, Try.results39, go_sem, q0, q1, q2]) rfl ⟨rfl, hbF⟩
  · cases hvo : validOpts l
    · rw [if_neg (by simp [hvo])] at hres
      subst hres
      go_enter Try.func39, Try.ntmps39
      go_wp2_with fail
      rw [HW0.out]
      refine (mvalidCho_any ⟨on, oc, ob⟩ _).mono ?_
      rintro e w1 ⟨rfl, hb1⟩
      have hb01 := bel_trans hb0 hb1
      have B61 := B6.below hb1
      have B41 := B4.below hb1
      go_wp2_with fail
      refine (mvalidOpts_any A cap n l _ (hr.below hb01) HN.out hl).mono ?_
      rintro e w2 ⟨rfl, hb2⟩
      have hb02 := bel_trans hb01 hb2
      have B62 := B61.below hb2
      have B42 := B41.below hb2
      have c6c0 := B62.cell 0
      have c6f0 := B62.frozen 0
      have c6c1 := B62.cell 1
      have c6f1 := B62.frozen 1
      have c6c2 := B62.cell 2
      have c6f2 := B62.frozen 2
      simp only [List.getElem?_cons_zero, List.getElem?_cons_succ] at c6c0 c6c1 c6c2
      go_wp2_with fail
      have BF := ((B62.set_ 0 (.int .u64 0)).set_ 1 (.int .i64 0)).set_ 2 (.int .i64 0)
      have hbF := (((hb02.setCell (p := ⟨w.heap.size + 1, 0, none⟩) (Nat.le_succ _) (.int .u64 0)).setCell (p := ⟨w.heap.size + 1, 1, none⟩) (Nat.le_succ _) (.int .i64 0)).setCell (p := ⟨w.heap.size + 1, 2, none⟩) (Nat.le_succ _) (.int .i64 0))
      obtain ⟨wF, hwF⟩ : ∃ wF, ((w2.setCell ⟨w.heap.size + 1, 0, none⟩ (.int .u64 0)).setCell ⟨w.heap.size + 1, 1, none⟩ (.int .i64 0)).setCell ⟨w.heap.size + 1, 2, none⟩ (.int .i64 0) = wF := ⟨_, rfl⟩
      rw [hwF] at BF hbF ⊢
      clear hwF
      have q0 := BF.cell 0
      have q1 := BF.cell 1
      have q2 := BF.cell 2
      simp only [List.set_cons_zero, List.set_cons_succ, List.getElem?_cons_zero, List.getElem?_cons_succ] at q0 q1 q2
      exact bodyPost_ret (v := .tuple #[.agg #[.int .u64 0, .int .i64 0, .int .i64 0], .int .i64 1]) (by simp [results, Try.results39, go_sem, q0, q1, q2]) rfl ⟨rfl, hbF⟩
    · have hvt : isTimeB now = false := by simpa [hvc, hvo] using hbad
      rw [if_pos ⟨hvc, hvo⟩, if_neg (by simp [hvt])] at hres
      subst hres
      go_enter Try.func39, Try.ntmps39
      go_wp2_with fail
      rw [HW0.out]
      refine (mvalidCho_any ⟨on, oc, ob⟩ _).mono ?_
      rintro e w1 ⟨rfl, hb1⟩
      have hb01 := bel_trans hb0 hb1
      have B61 := B6.below hb1
      have B41 := B4.below hb1
      go_wp2_with fail
      refine (mvalidOpts_any A cap n l _ (hr.below hb01) HN.out hl).mono ?_
      rintro e w2 ⟨rfl, hb2⟩
      have hb02 := bel_trans hb01 hb2
      have B62 := B61.below hb2
      have B42 := B41.below hb2
      go_wp2_with fail
      refine (mtime_any _ _).mono ?_
      rintro e w3 ⟨rfl, rfl⟩
      have c6c0 := B62.cell 0
      have c6f0 := B62.frozen 0
      have c6c1 := B62.cell 1
      have c6f1 := B62.frozen 1
      have c6c2 := B62.cell 2
      have c6f2 := B62.frozen 2
      simp only [List.getElem?_cons_zero, List.getElem?_cons_succ] at c6c0 c6c1 c6c2
      go_wp2_with fail
      have BF := ((B62.set_ 0 (.int .u64 0)).set_ 1 (.int .i64 0)).set_ 2 (.int .i64 0)
      have hbF := (((hb02.setCell (p := ⟨w.heap.size + 1, 0, none⟩) (Nat.le_succ _) (.int .u64 0)).setCell (p := ⟨w.heap.size + 1, 1, none⟩) (Nat.le_succ _) (.int .i64 0)).setCell (p := ⟨w.heap.size + 1, 2, none⟩) (Nat.le_succ _) (.int .i64 0))
      obtain ⟨wF, hwF⟩ : ∃ wF, ((w2.setCell ⟨w.heap.size + 1, 0, none⟩ (.int .u64 0)).setCell ⟨w.heap.size + 1, 1, none⟩ (.int .i64 0)).setCell ⟨w.heap.size + 1, 2, none⟩ (.int .i64 0) = wF := ⟨_, rfl⟩
      rw [hwF] at BF hbF ⊢
      clear hwF
      have q0 := BF.cell 0
      have q1 := BF.cell 1
      have q2 := BF.cell 2
      simp only [List.set_cons_zero, List.set_cons_succ, List.getElem?_cons_zero, List.getElem?_cons_succ] at q0 q1 q2
      exact bodyPost_ret (v := .tuple #[.agg #[.int .u64 0, .int .i64 0, .int .i64 0], .int .i64 2]) (by simp [results, Try.results39, go_sem, q0, q1, q2]) rfl ⟨rfl, hbF⟩
end Go.Proofs.Ytolliidpmgncdaa
