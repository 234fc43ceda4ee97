/- The contract of metric.Choose, whole; the sanity check 'known' of the statements on metrics. -/
import Derived.Test.YtolliidpmgncdaaMetChoose2
import Derived.Test.YtolliidpmgncdaaMod
namespace Go.Proofs.Ytolliidpmgncdaa
open Go.RowKit
set_option linter.unusedVariables false

theorem choose_any (now : Int) (old : Cho) (A : Option Addr) (cap n : Nat) (l : List Opt) (w : World) (hr : Row w A (ov l)) (hn : l.length = n) (hl : n ≤ 4611686018427387904) :
    Calls Try.prog 39 #[.int .i64 now, choV old, .slice A n cap] w fun e w' => e = .returned (.tuple #[choV (choose now old l).1, .int .i64 (choose now old l).2]) ∧ Below w.heap.size w w' := by
  cases h1 : validCho old
  · exact choose_bad now old A cap n l w hr hn hl (.inl h1)
  · cases h2 : validOpts l
    · exact choose_bad now old A cap n l w hr hn hl (.inr (.inl h2))
    · cases h3 : isTimeB now
      · exact choose_bad now old A cap n l w hr hn hl (.inr (.inr h3))
      · exact choose_good now old A cap n l w hr hn hl h1 h2 h3

/-- The same with the values written out. -/
theorem choose_ag {now n c b n' c' b' er : Int} {A : Option Addr} {cap k : Nat} {l : List Opt} {w : World} (hres : choose now ⟨n, c, b⟩ l = (⟨n', c', b'⟩, er)) (hr : Row w A (ov l)) (hn : l.length = k) (hl : k ≤ 4611686018427387904) :
    Calls Try.prog 39 #[.int .i64 now, .agg #[.int .u64 n, .int .i64 c, .int .i64 b], .slice A k cap] w fun e w' => e = .returned (.tuple #[.agg #[.int .u64 n', .int .i64 c', .int .i64 b'], .int .i64 er]) ∧ Below w.heap.size w w' := by
  have := choose_any now ⟨n, c, b⟩ A cap k l w hr hn hl
  rw [hres] at this
  exact this

theorem row_new (w : World) (t : TypeId) (vs : List Value) : Row (w.alloc (.cells vs.toArray t)) (some ⟨w.heap.size, 0, none⟩) vs := fun j u hu => by
  refine ⟨_, rfl, ?_⟩
  have e : (Addr.add ⟨w.heap.size, 0, none⟩ j) = ⟨w.heap.size, j, none⟩ := by unfold Addr.add; split <;> simp_all
  rw [e, (Blk.new w t vs).cell, hu]

set_option maxHeartbeats 1000000 in
theorem mknown_any (w : World) : Calls Try.prog 37 #[] w fun e w' => e = .returned (.bool true) ∧ Below w.heap.size w w' := by
  have hc : choose 5 ⟨1, 300, -1⟩ [⟨1, 300⟩, ⟨2, 290⟩] = (⟨1, 300, 5⟩, 0) := by rfl
  have HC := Lib.hid hc
  have HA : Hid (addC 65000 600 = 65535) := Lib.hid (by decide)
  have HL : Hid (linkC 256 300 = 300) := Lib.hid (by decide)
  have HS : Hid (smoothC 256 266 = 259) := Lib.hid (by decide)
  clear hc
  go_enter Try.func37, Try.ntmps37
  go_wp2_with fail
  refine (choose_any 5 ⟨1, 300, -1⟩ _ 2 2 [⟨1, 300⟩, ⟨2, 290⟩] _ (row_new w 61 (ov [⟨1, 300⟩, ⟨2, 290⟩])) rfl (by omega)).mono ?_
  rintro e w1 ⟨rfl, hb1⟩
  rw [HC.out]
  unfold choV
  go_wp2_with (first | (go_at_call 31; refine (madd_any _ _ _).mono ?_; rintro e w' ⟨rfl, rfl⟩; rw [HA.out]) | (go_at_call 33; refine (mlink_any _ _ _).mono ?_; rintro e w' ⟨rfl, rfl⟩; rw [HL.out]) | (go_at_call 35; refine (msmooth_any _ _ _).mono ?_; rintro e w' ⟨rfl, rfl⟩; rw [HS.out]))
  go_ret
  exact ⟨rfl, bel_alloc (bel_trans ((Below.refl _ _).alloc (Nat.le_refl _) _) hb1) _⟩
end Go.Proofs.Ytolliidpmgncdaa
