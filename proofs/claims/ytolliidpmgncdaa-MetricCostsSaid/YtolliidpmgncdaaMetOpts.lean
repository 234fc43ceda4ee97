/- The contract of metric.ValidOptions. -/
import Derived.Test.YtolliidpmgncdaaMetW
import Derived.Deep.RegionHeld3
import Derived.Deep.DrawnRows
namespace Go.Proofs.Ytolliidpmgncdaa
open Go.RowKit
set_option linter.unusedVariables false

/-- The cells of a slice of options. -/
def ov (l : List Opt) : List Value := l.flatMap fun o => [.int .u64 o.n, .int .i64 o.c]
theorem ov_length (l : List Opt) : (ov l).length = l.length * 2 := by
  induction l with
  | nil => rfl
  | cons o l ih => simp [ov] at ih ⊢; omega
theorem ov_at (l : List Opt) : ∀ (k : Nat) (hk : k < l.length), (ov l)[k * 2]? = some (.int .u64 l[k].n) ∧ (ov l)[k * 2 + 1]? = some (.int .i64 l[k].c) := by
  induction l with
  | nil => intro k hk; simp at hk
  | cons o l ih =>
    intro k hk
    cases k with
    | zero => exact ⟨rfl, rfl⟩
    | succ k =>
      have := ih k (by simpa using hk)
      have e1 : (k + 1) * 2 = k * 2 + 1 + 1 := by omega
      rw [e1]
      exact this
theorem opts_cells {w : World} {A : Option Addr} {l : List Opt} (hr : Row w A (ov l)) (h : 0 < l.length) :
    ∃ b off, A = some ⟨b, off, none⟩ ∧ b < w.heap.size ∧ ∀ (k : Nat) (hk : k < l.length), w.cell? ⟨b, off + k * 2, none⟩ = some (.int .u64 l[k].n) ∧ w.cell? ⟨b, off + k * 2 + 1, none⟩ = some (.int .i64 l[k].c) := by
  obtain ⟨b, off, e, hb, hc⟩ := hr.place (by rw [ov_length]; omega)
  refine ⟨b, off, e, hb, fun k hk => ⟨hc _ _ (ov_at l k hk).1, ?_⟩⟩
  rw [Nat.add_assoc]
  exact hc _ _ (ov_at l k hk).2

set_option maxHeartbeats 1000000 in
theorem mvalidOpts_any (A : Option Addr) (cap n : Nat) (l : List Opt) (w : World) (hr : Row w A (ov l)) (hn : l.length = n) (hl : n ≤ 4611686018427387904) :
    Calls Try.prog 54 #[.slice A n cap] w fun e w' => e = .returned (.bool (validOpts l)) ∧ Below w.heap.size w w' := by
  have HN := Lib.hid hn
  clear hn
  by_cases h16 : n ≤ 16
  · go_enter Try.func54, Try.ntmps54
    go_wp2_with fail
    go_loopw [10] (fun i wr => ∃ k : Nat, k ≤ n ∧ i = .int .i64 k ∧ Below w.heap.size w wr ∧ Hid (validFrom none (l.take k) = true)) (fun i _ => n - (intOf i).toNat)
    case atStart => exact ⟨0, by omega, rfl, Below.refl _ _, Lib.hid rfl⟩
    case round =>
      obtain ⟨k, hk, rfl, hb, HV⟩ := hrel
      by_cases hkn : k < n
      · obtain ⟨b, off, rfl, hbl, hcs⟩ := opts_cells hr (by rw [HN.out]; omega)
        have hkl : k < l.length := by rw [HN.out]; exact hkn
        have hc1 := (hb.cell (p := ⟨b, off + k * 2, none⟩) hbl).trans (hcs k hkl).1
        have hc2 := (hb.cell (p := ⟨b, off + k * 2 + 1, none⟩) hbl).trans (hcs k hkl).2
        have HS := Lib.hid (validFrom_succ hkl)
        have HB := Lib.hid (validOpts_bad hkl)
        have HP : Hid (∀ h0 : 0 < k, wr.cell? ⟨b, off + (k - 1) * 2, none⟩ = some (.int .u64 (l[k - 1]'(by omega)).n) ∧ lastN none (l.take k) = some (l[k - 1]'(by omega)).n) :=
          Lib.hid (fun h0 => ⟨(hb.cell (p := ⟨b, off + (k - 1) * 2, none⟩) hbl).trans (hcs (k - 1) (by omega)).1, lastN_pos h0 hkl⟩)
        generalize hx : l[k] = x at *
        obtain ⟨xn, xc⟩ := x
        dsimp only at hc1 hc2
        clear hcs hx hr
        have hka : (0 : Int) ≤ (k : Int) := by omega
        by_cases hxn : xn = 0
        · have hxb : (xn == 0) = true := by simp [hxn]
          have hbad : okAt l k ⟨xn, xc⟩ = false := by simp [okAt, hxn]
          have HBB := Lib.hid (HB.out hbad)
          clear hbad hxn HB HS HP
          go_wp2_with fail
          go_quiet ((go_at_call 29; exact quiet_left (mvalid_any _ _)))
          go_wp2_with fail
          go_ret
          exact ⟨by rw [HBB.out]; rfl, bel_drewN (bel_alloc hb _) _⟩
        · have hxb : (xn == 0) = false := by simp [hxn]
          cases hv : validC xc
          · have hbad : okAt l k ⟨xn, xc⟩ = false := by simp [okAt, hv]
            have HBB := Lib.hid (HB.out hbad)
            clear hbad hxn HB HS HP
            go_wp2_with fail
            go_quiet ((go_at_call 29; exact quiet_left (mvalid_any _ _)))
            go_wp2_with fail
            go_ret
            exact ⟨by rw [HBB.out]; rfl, bel_drewN (bel_alloc hb _) _⟩
          · by_cases hk0 : k = 0
            · have hl0 : lastN none (l.take k) = none := by rw [hk0]; rfl
              have hok : okAt l k ⟨xn, xc⟩ = true := by simp [okAt, hl0, hv, hxn]
              have HSS : Hid (validFrom none (l.take (k + 1)) = true) := Lib.hid (by rw [HS.out, HV.out, hok]; rfl)
              have hd : decide (0 < k) = false := by simp [hk0]
              clear hok hxn HB HS HP HV hl0 hk0
              go_wp2_with fail
              go_quiet ((go_at_call 29; exact quiet_left (mvalid_any _ _)))
              go_wp2_with fail
              go_roundw
              case rel => exact ⟨k + 1, by omega, by go_num, bel_drewN (bel_alloc hb _) _, Lib.hid (HSS.out)⟩
              case measure => simp [intOf]; omega
            · have hk1 : (0 : Int) ≤ (k : Int) - 1 := by omega
              have hk2 : (k : Int) - 1 < (n : Int) := by omega
              have hk3 : (1 : Int) ≤ (k : Int) := by omega
              obtain ⟨hcp, hlp⟩ := HP.out (by omega)
              generalize (l[k - 1]'(by omega)).n = pn at *
              have hd : decide (0 < k) = true := by simp; omega
              have hcq : (wr.alloc (.cells #[.int .u64 xn, .int .i64 xc] 61)).cell? ⟨b, off + (k - 1) * 2, none⟩ = some (.int .u64 pn) :=
                (World.cell?_alloc_lt wr _ _ (Nat.lt_of_lt_of_le hbl hb.size)).trans hcp
              have hkw : IntKind.i64.wrap ((k : Int) - 1) = (k : Int) - 1 := IntWalk.i64_in _ (by omega)
              have hkt : ((k : Int) - 1).toNat = k - 1 := by omega
              by_cases hlt : pn < xn
              · have hok : okAt l k ⟨xn, xc⟩ = true := by simp [okAt, hlp, hv, hxn, hlt]
                have HSS : Hid (validFrom none (l.take (k + 1)) = true) := Lib.hid (by rw [HS.out, HV.out, hok]; rfl)
                clear hok hxn HB HS HP HV hlp
                go_wp2_with fail
                go_quiet ((go_at_call 29; exact quiet_left (mvalid_any _ _)))
                go_wp2_with fail
                go_roundw
                case rel => exact ⟨k + 1, by omega, by go_num, bel_drewN (bel_alloc hb _) _, Lib.hid (HSS.out)⟩
                case measure => simp [intOf]; omega
              · have hbad : okAt l k ⟨xn, xc⟩ = false := by simp [okAt, hlp, hlt]
                have HBB := Lib.hid (HB.out hbad)
                clear hbad hxn HB HS HP HV hlp
                go_wp2_with fail
                go_quiet ((go_at_call 29; exact quiet_left (mvalid_any _ _)))
                go_wp2_with fail
                go_ret
                exact ⟨by rw [HBB.out]; rfl, bel_drewN (bel_alloc hb _) _⟩
      · have HF : Hid (validOpts l = true) := Lib.hid (by
          have h1 := HV.out
          have e : l.take k = l := List.take_of_length_le (by rw [HN.out]; omega)
          rw [e] at h1
          unfold validOpts
          rw [h1, HN.out, decide_eq_true h16]; rfl)
        go_wp2_with fail
        go_ret
        exact ⟨by rw [HF.out]; rfl, hb⟩
  · have HF : Hid (validOpts l = false) := Lib.hid (by unfold validOpts; rw [HN.out, decide_eq_false h16]; rfl)
    go_enter Try.func54, Try.ntmps54
    go_wp2_with fail
    go_ret
    exact ⟨by rw [HF.out]; rfl, Below.refl _ _⟩
end Go.Proofs.Ytolliidpmgncdaa
