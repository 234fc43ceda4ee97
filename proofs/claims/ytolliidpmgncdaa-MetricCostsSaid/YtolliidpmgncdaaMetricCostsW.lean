/- The walk of MetricCosts. -/
import Derived.Test.YtolliidpmgncdaaMetKnown
import Derived.Test.YtolliidpmgncdaaMetRef
import Derived.Test.YtolliidpmgncdaaMadeCost
namespace Go.Proofs.Ytolliidpmgncdaa
open Go.RowKit
set_option linter.unusedVariables false

/-- A row of ints that came in. -/
theorem IsRow.ints {w : World} {a : Option Addr} {len cap : Nat} {zs : List Int} (h : IsRow .i64 w a len cap zs) : ∃ l : List Int, l.length = len ∧ len ≤ cap ∧ cap ≤ 9223372036854775807 ∧ Row w a (iv l) ∧ ∀ z ∈ l, -9223372036854775808 ≤ z ∧ z ≤ 9223372036854775807 := by
  rcases h with ⟨rfl, rfl, rfl, rfl⟩ | ⟨x, rfl, hl, hm, hz, hc, hw⟩
  · exact ⟨[], rfl, Nat.le_refl _, by omega, Row.nil, by simp⟩
  · unfold maxLen at hm
    refine ⟨zs.take len, by simp; omega, hl, hm, fun j u hu => ⟨x, rfl, ?_⟩, fun z hz => bounds_i64 (hw z (List.mem_of_mem_take hz))⟩
    simp [iv, List.getElem?_take] at hu
    obtain ⟨hj, z, hz1, rfl⟩ := hu
    have hjz : j < zs.length := (List.getElem?_eq_some_iff.1 hz1).1
    rw [hc j hjz]
    simp [hz1]

set_option maxRecDepth 100000 in
set_option maxHeartbeats 2000000 in
theorem walkMetricCosts (a0 : Int) (a1 : Int) (a2 : Option Addr) (len2 cap2 : Nat) (z2 : List Int) (w : World) (w0 : (Lit.int .i64 a0).wf = true) (w1 : (Lit.int .i64 a1).wf = true) (w2 : IsRow .i64 w a2 len2 cap2 z2) (rr2 : cap2 * 8 ≤ 140737488351232) :
    Calls Try.prog 7 #[.int .i64 a0, .int .i64 a1, .slice a2 len2 cap2] w fun e w' => e = .returned (.bool true) ∧ Below w.heap.size w w' := by
  have b0 := bounds_i64 w0
  have b1 := bounds_i64 w1
  obtain ⟨l, hln, hlc, hcm, hr, hz⟩ := w2.ints
  have m0 := Int.emod_nonneg a0 (show (65540 : Int) ≠ 0 by omega)
  have m1 := Int.emod_nonneg a1 (show (65540 : Int) ≠ 0 by omega)
  have n0 := Int.emod_lt_of_pos a0 (show (0 : Int) < 65540 by omega)
  have n1 := Int.emod_lt_of_pos a1 (show (0 : Int) < 65540 by omega)
  clear w0 w1 w2
  have HT := Lib.hid (tnew_any hr hln hlc hcm hz)
  clear hr hln hz
  go_enter Try.func7, Try.ntmps7
  go_wp2_with fail
  refine HT.out.mono ?_
  rintro e w1 ⟨rfl, ht1, hb1⟩
  clear HT
  go_wp2_with fail
  refine (mod_any _ _ (by omega) (by omega) (by omega) _).mono ?_
  rintro e w' ⟨rfl, rfl⟩
  go_wp2_with fail
  refine (mod_any _ _ (by omega) (by omega) (by omega) _).mono ?_
  rintro e w' ⟨rfl, rfl⟩
  go_wp2_with fail
  refine (cost_any ht1).mono ?_
  rintro e w2 ⟨v1, rfl, h1, h2, ht2, ho2⟩
  go_wp2_with fail
  refine (tnext_any ht2 9 (by omega) (by omega)).mono ?_
  rintro e w3 ⟨v2, rfl, h3, h4, ht3, ho3⟩
  have hb3 : Below w.heap.size w w3 := ho3.below (ho2.below hb1 hb1.size (Nat.le_refl _)) (Nat.le_trans hb1.size ho2.size) (Nat.le_refl _)
  go_wp2_with fail
  have hbW := bel_alloc hb3 (.cells #[.int .i64 a0, .int .i64 a1, .int .i64 (a0 % 65540 - 2), .int .i64 (a1 % 65540 - 2), .int .i64 v1, .int .i64 v2, .int .i64 65535] 3)
  have BL := Blk.new w3 3 (iv [a0, a1, a0 % 65540 - 2, a1 % 65540 - 2, v1, v2, 65535])
  have HC : Hid (∀ k, k < 7 → ∃ x, (w3.alloc (.cells #[.int .i64 a0, .int .i64 a1, .int .i64 (a0 % 65540 - 2), .int .i64 (a1 % 65540 - 2), .int .i64 v1, .int .i64 v2, .int .i64 65535] 3)).cell? ⟨w3.heap.size, k, none⟩ = some (.int .i64 x)) :=
    Lib.hid (fun k hk => ⟨[a0, a1, a0 % 65540 - 2, a1 % 65540 - 2, v1, v2, 65535][k]'(by simpa using hk), by
      refine (BL.cell k).trans ?_
      simp only [iv, List.getElem?_map]
      rw [List.getElem?_eq_getElem (by simpa using hk)]
      rfl⟩)
  clear BL
  generalize w3.alloc (.cells #[.int .i64 a0, .int .i64 a1, .int .i64 (a0 % 65540 - 2), .int .i64 (a1 % 65540 - 2), .int .i64 v1, .int .i64 v2, .int .i64 65535] 3) = W at *
  clear hb3 ht3 ho3 ht2 ho2 ht1 hb1 m0 m1 n0 n1 h1 h2 h3 h4
  go_loop [30] (fun i => ∃ k : Nat, k ≤ 7 ∧ i = .int .i64 k) (fun i => 7 - (intOf i).toNat)
  case atStart => exact ⟨0, by omega, rfl⟩
  case round =>
    obtain ⟨k, hk, rfl⟩ := hrel
    by_cases hk7 : k < 7
    · obtain ⟨x, hx⟩ := HC.out k hk7
      go_wp2_with fail
      go_loop [36] (fun i => ∃ j : Nat, j ≤ 7 ∧ i = .int .i64 j) (fun i => 7 - (intOf i).toNat)
      case atStart => exact ⟨0, by omega, rfl⟩
      case round =>
        obtain ⟨j, hj, rfl⟩ := hrel
        by_cases hj7 : j < 7
        · obtain ⟨y, hy⟩ := HC.out j hj7
          have nb : (validC x != validC x) = false := by simp
          have n1 : (addC x y != addC x y) = false := by simp
          have n2 : (linkC x y != linkC x y) = false := by simp
          have n3 : (smoothC x y != smoothC x y) = false := by simp
          go_wp2_with fail
          refine (mvalid_any _ _).mono ?_
          rintro e w' ⟨rfl, rfl⟩
          go_wp2_with fail
          refine (rvalid_any _ _).mono ?_
          rintro e w' ⟨rfl, rfl⟩
          go_wp2_with fail
          refine (madd_any _ _ _).mono ?_
          rintro e w' ⟨rfl, rfl⟩
          go_wp2_with fail
          refine (radd_any _ _ _).mono ?_
          rintro e w' ⟨rfl, rfl⟩
          go_wp2_with fail
          refine (mlink_any _ _ _).mono ?_
          rintro e w' ⟨rfl, rfl⟩
          go_wp2_with fail
          refine (rlink_any _ _ _).mono ?_
          rintro e w' ⟨rfl, rfl⟩
          go_wp2_with fail
          refine (msmooth_any _ _ _).mono ?_
          rintro e w' ⟨rfl, rfl⟩
          go_wp2_with fail
          refine (rsmooth_any _ _ _).mono ?_
          rintro e w' ⟨rfl, rfl⟩
          go_wp2_with fail
          go_round
          case rel => exact ⟨j + 1, by omega, by go_num⟩
          case measure => simp [intOf]; omega
        · go_wp2_with fail
          go_round
          case rel => exact ⟨k + 1, by omega, by go_num⟩
          case measure => simp [intOf]; omega
    · go_wp2_with fail
      refine (mknown_any _).mono ?_
      rintro e w5 ⟨rfl, hb5⟩
      go_wp2_with fail
      go_ret
      exact ⟨rfl, bel_trans hbW hb5⟩
end Go.Proofs.Ytolliidpmgncdaa
