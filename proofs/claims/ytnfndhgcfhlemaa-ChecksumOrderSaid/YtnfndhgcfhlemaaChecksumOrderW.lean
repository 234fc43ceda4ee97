/- The walk of ChecksumOrder. -/
import Derived.Test.YtnfndhgcfhlemaaKnown
import Derived.Test.YtnfndhgcfhlemaaOwn
import Derived.Test.YtnfndhgcfhlemaaOrder
import Derived.RegionTactic
import Derived.BigRegion
namespace Go.Proofs.Ytnfndhgcfhlemaa
open Go.RowKit
set_option linter.unusedVariables false

theorem info_u8' : (Try.prog.info? 5).map (fun i => (i.zero, i.size, i.bytes)) = some (some (.int .u8 0), 1, 1) := by kernel_rfl

set_option maxHeartbeats 1000000 in
theorem walkChecksumOrder (a0 : Option Addr) (len0 cap0 : Nat) (z0 : List Int) (a1 : Int) (a2 : Int) (w : World) (w0 : IsRow .u8 w a0 len0 cap0 z0) (rr0 : cap0 * 1 ≤ 140737488351232) (w1 : (Lit.int .i64 a1).wf = true) (w2 : (Lit.int .i64 a2).wf = true) :
    Calls Try.prog 7 #[.slice a0 len0 cap0, .int .i64 a1, .int .i64 a2] w fun e w' => e = .returned (.bool true) ∧ Below w.heap.size w w' := by
  obtain ⟨l0, rfl, hlc, hcm, hr0⟩ := w0.bytes
  have b1 := bounds_i64 w1
  have b2 := bounds_i64 w2
  clear w0 w1 w2 hcm
  have hl0 : l0.length ≤ 140737488351232 := by omega
  obtain ⟨i0, hi, hz0, hz1, hz2⟩ := info_parts info_u8'
  obtain ⟨l, hl⟩ : ∃ l, l0.take (l0.length / 2 * 2) = l := ⟨_, rfl⟩
  have hr : Row w a0 (bv l) := by rw [← hl, ← bv_take]; exact hr0.take _
  have hll : l.length = l0.length / 2 * 2 := by rw [← hl]; simp; omega
  have C1 : Hid ((bv l).length = l0.length / 2 * 2 * 1) := Lib.hid (by simp [hll])
  have C2 : Hid (0 + l0.length / 2 * 2 ≤ maxLen) := Lib.hid (by unfold maxLen; omega)
  have C3 : Hid ((0 + l0.length / 2 * 2) * 1 ≤ 140737488355328) := Lib.hid (by omega)
  have HLL := Lib.hid hll
  have hle : l.length ≤ 140737488351232 := by omega
  clear hl hll hr0
  have hown0 : (w.alloc (.cells #[] 5)).ownsRow w.heap.size 5 1 (.slice (some ⟨w.heap.size, 0, none⟩) 0 0) 0 [] :=
    World.ownsRow_lit w #[] 0 (Nat.le_refl _) (by unfold maxLen; omega) rfl
  have hb0 : Below w.heap.size w (w.alloc (.cells #[] 5)) := (Below.refl _ _).alloc (Nat.le_refl _) _
  have HO0 := Lib.hid hown0
  clear hown0
  go_enter Try.func7, Try.ntmps7
  go_wp2_with (at_builtin; refine wpList_append_row _ rfl (.tmp 8) (.tmp 14) _ rfl w.heap.size 5 i0 _ 1 1 Try.underlying22 hi hz0 hz1 hz2 rfl (by omega) _ 0 [] rfl HO0.out a0 (l0.length / 2 * 2) cap0 (bv l) rfl C1.out (hr.below hb0) (bv_one l) C2.out C3.out hb0.size ?_; intro v1 w1 hown1 hg1 hat1; have hb1 := below_grown hb0 HO0.out (Nat.le_refl _) hb0.size hg1; simp only [Nat.zero_add, List.nil_append] at hown1; have HO1 := Lib.hid hown1; clear hown1 hat1 hg1)
  have hev : l.length % 2 = 0 := by have := HLL.out; omega
  rw [← HLL.out] at HO1
  clear C1 C2 C3 HLL HO0 hb0
  refine (sum_sl (sl_of_own HO1.out) (by omega)).mono ?_
  rintro e w2 ⟨rfl, hb2⟩
  have HS : Hid (foldN (tot true l) = foldN (tot true l)) := Lib.hid rfl
  obtain ⟨s, hs⟩ : ∃ s, foldN (tot true l) = s := ⟨_, rfl⟩
  have hs16 := foldN_le (tot true l)
  rw [hs] at hs16 ⊢
  have HSM := Lib.hid hs
  clear hs HS
  by_cases hn0 : l.length = 0
  · obtain ⟨A, c, rfl, hc1, hc2⟩ := own_shape HO1.out
    have hs0 : s = 0 := by
      have : l = [] := List.eq_nil_of_length_eq_zero hn0
      rw [← HSM.out, this]; rfl
    subst hs0
    have hln : ((l.length : Int) == 0) = true := by simp; exact List.eq_nil_of_length_eq_zero hn0
    go_wp2_with fail
    refine (known_any _).mono ?_
    rintro e w3 ⟨rfl, hb3⟩
    go_wp2_with fail
    go_ret
    exact ⟨rfl, bel_trans (bel_trans hb1 hb2) hb3⟩
  · obtain ⟨g, cap, rfl, hgB, hgl⟩ := HO1.out.form (by omega)
    have hln : ((l.length : Int) == 0) = false := by simp; intro h; apply hn0; simp [h]
    go_wp2_with fail
    refine (mod_any _ _ (by omega) (by omega) (by omega) _).mono ?_
    rintro e w3 ⟨rfl, rfl⟩
    obtain ⟨i, hi1, hi2⟩ := emod_nat a1 ((l.length : Int) / 2) (by omega)
    rw [hi1]
    clear hi1
    go_wp2_with fail
    refine (mod_any _ _ (by omega) (by omega) (by omega) _).mono ?_
    rintro e w3 ⟨rfl, rfl⟩
    obtain ⟨k, hk1, hk2⟩ := emod_nat a2 ((l.length : Int) / 2) (by omega)
    rw [hk1]
    clear hk1
    have HO2 := Lib.hid (own_below HO1.out hb2)
    have hi3 : 2 * i + 1 < l.length := by omega
    have hk3 : 2 * k + 1 < l.length := by omega
    have hci := own_byte HO2.out (k := 2 * i) (by omega)
    have hck := own_byte HO2.out (k := 2 * k) (by omega)
    have hfi := HO2.out.frozenAt (2 * i)
    have hfk := HO2.out.frozenAt (2 * k)
    have HP := Lib.hid (own_put (own_put HO2.out (2 * i) l[2 * k]) (2 * k) l[2 * i])
    have hlm : ((l.set (2 * i) l[2 * k]).set (2 * k) l[2 * i]).length = l.length := by simp
    have HT := Lib.hid (tot_swap2 (l := l) (i := 2 * i) (k := 2 * k) hi3 hk3 (by omega) (by omega) rfl hlm)
    generalize (l.set (2 * i) l[2 * k]).set (2 * k) l[2 * i] = m at *
    generalize l[2 * i] = x at *
    generalize l[2 * k] = y at *
    obtain ⟨v', hv'⟩ := cell?_setCell_some (w := w2) (p := ⟨g, 2 * i, none⟩) (x := .int .u8 (y.toNat : Int)) (q := ⟨g, 2 * k, none⟩) (v := .int .u8 (y.toNat : Int)) hck
    go_wp2_with fail
    go_region
    have hb3 : Below w.heap.size w ((w2.setCell ⟨g, 2 * i, none⟩ (.int .u8 (y.toNat : Int))).setCell ⟨g, 2 * k, none⟩ (.int .u8 (x.toNat : Int))).drew :=
      (((bel_trans hb1 hb2).setCell hgB _).setCell hgB _).drew
    have HO3 := Lib.hid HP.out.drew
    obtain ⟨w3, hw3⟩ : ∃ w3, ((w2.setCell ⟨g, 2 * i, none⟩ (.int .u8 (y.toNat : Int))).setCell ⟨g, 2 * k, none⟩ (.int .u8 (x.toNat : Int))).drew = w3 := ⟨_, rfl⟩
    rw [hw3] at hb3 HO3 ⊢
    clear hw3 hci hck hfi hfk hv' HP
    have hci := own_byte HO3.out (k := 2 * i + 1) (by omega)
    have hck := own_byte HO3.out (k := 2 * k + 1) (by omega)
    have hfi := HO3.out.frozenAt (2 * i + 1)
    have hfk := HO3.out.frozenAt (2 * k + 1)
    have HP := Lib.hid (own_put (own_put HO3.out (2 * i + 1) m[2 * k + 1]) (2 * k + 1) m[2 * i + 1])
    have hlq : ((m.set (2 * i + 1) m[2 * k + 1]).set (2 * k + 1) m[2 * i + 1]).length ≤ 140737488351232 := by simp; omega
    generalize (m.set (2 * i + 1) m[2 * k + 1]).set (2 * k + 1) m[2 * i + 1] = q at *
    generalize m[2 * i + 1] = x' at *
    generalize m[2 * k + 1] = y' at *
    obtain ⟨v'', hv''⟩ := cell?_setCell_some (w := w3) (p := ⟨g, 2 * i + 1, none⟩) (x := .int .u8 (y'.toNat : Int)) (q := ⟨g, 2 * k + 1, none⟩) (v := .int .u8 (y'.toNat : Int)) hck
    go_wp2_with fail
    go_region
    have hb4 : Below w.heap.size w ((w3.setCell ⟨g, 2 * i + 1, none⟩ (.int .u8 (y'.toNat : Int))).setCell ⟨g, 2 * k + 1, none⟩ (.int .u8 (x'.toNat : Int))).drew :=
      ((hb3.setCell hgB _).setCell hgB _).drew
    have HO4 := Lib.hid HP.out.drew
    obtain ⟨w4, hw4⟩ : ∃ w4, ((w3.setCell ⟨g, 2 * i + 1, none⟩ (.int .u8 (y'.toNat : Int))).setCell ⟨g, 2 * k + 1, none⟩ (.int .u8 (x'.toNat : Int))).drew = w4 := ⟨_, rfl⟩
    rw [hw4] at hb4 HO4 ⊢
    clear hw4 hci hck hfi hfk hv'' HP
    go_wp2_with fail
    refine (known_any _).mono ?_
    rintro e w5 ⟨rfl, hb5⟩
    go_wp2_with fail
    refine (sum_sl (sl_of_own (own_below HO4.out hb5)) (by omega)).mono ?_
    rintro e w6 ⟨rfl, hb6⟩
    rw [HT.out, HSM.out]
    go_wp2_with fail
    go_ret
    exact ⟨by simp, bel_trans (bel_trans hb4 hb5) hb6⟩
end Go.Proofs.Ytnfndhgcfhlemaa
