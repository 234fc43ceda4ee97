/- The walk of ChecksumUpdates. -/
import Derived.Test.YtnfndhgcfhlemaaKnown
import Derived.Test.YtnfndhgcfhlemaaOwn
import Derived.Test.YtnfndhgcfhlemaaOrder
import Derived.RegionTactic
import Derived.Deep.QuietTactic
import Derived.BigQuiet
namespace Go.Proofs.Ytnfndhgcfhlemaa
open Go.RowKit
set_option linter.unusedVariables false

theorem info_u8'' : (Try.prog.info? 5).map (fun i => (i.zero, i.size, i.bytes)) = some (some (.int .u8 0), 1, 1) := by kernel_rfl

theorem u8_beq0 (a : UInt8) : ((a.toNat : Int) == 0) = (a == 0) := by
  rw [Bool.eq_iff_iff]
  simp
  exact ⟨fun h => UInt8.toNat_inj.1 (by simp [h]), fun h => by simp [h]⟩
/-- The sum behind a changed word. -/
theorem tot_word {l : List UInt8} {i : Nat} (hi : i + 1 < l.length) (ei : i % 2 = 0) (x y : UInt8) :
    tot true ((l.set i x).set (i + 1) y) + (l[i].toNat * 256 + l[i + 1].toNat) = tot true l + (x.toNat * 256 + y.toNat) := by
  have h1 := tot_set l true i x (by omega)
  have h2 := tot_set (l.set i x) true (i + 1) y (by simp; omega)
  rw [wt_even ei] at h1
  rw [wt_odd (by omega), List.getElem_set_ne (by omega)] at h2
  omega
/-- The changed data with its updated checksum. -/
theorem upd_zero {l q : List UInt8} {T' old new c : Nat} (ho : old ≤ 65535) (hn : new ≤ 65535) (hT : tot true q + old = tot true l + new) (hev : q.length % 2 = 0) (hc : c = upd (inet l) old new) (ch cl : UInt8) (hch : ch.toNat * 256 + cl.toNat = c)
    (h0 : (q ++ [ch, cl]).all (· == 0) = false) (hT' : old ≤ tot true l) : inet (q ++ [ch, cl]) = 0 := by
  have e : tot true (q ++ [ch, cl]) = tot true l - old + new + c := by
    rw [tot_append, side_even hev]
    simp [tot]
    omega
  unfold inet
  rw [e, upd_right ho hn hT' c (by rw [hc]; unfold upd inet; rfl)]
  intro hz
  rw [← e] at hz
  have := tot_zero _ _ hz
  have : (q ++ [ch, cl]).all (· == 0) = true := List.all_eq_true.2 fun c hc => by simp [this c hc]
  rw [this] at h0
  cases h0
theorem word_le {l : List UInt8} {i : Nat} (hi : i + 1 < l.length) (ei : i % 2 = 0) : l[i].toNat * 256 + l[i + 1].toNat ≤ tot true l := by
  have := tot_word hi ei 0 0
  simp at this
  omega

set_option maxRecDepth 100000 in
set_option maxHeartbeats 1000000 in
theorem walkChecksumUpdates (a0 : Option Addr) (len0 cap0 : Nat) (z0 : List Int) (a1 : Int) (a2 : Int) (w : World) (w0 : IsRow .u8 w a0 len0 cap0 z0) (rr0 : cap0 * 1 ≤ 140737488351232) (w1 : (Lit.int .i64 a1).wf = true) (w2 : (Lit.int .u16 a2).wf = true) :
    Calls Try.prog 6 #[.slice a0 len0 cap0, .int .i64 a1, .int .u16 a2] w fun e w' => e = .returned (.bool true) ∧ Below w.heap.size w w' := by
  obtain ⟨l0, rfl, hlc, hcm, hr0⟩ := w0.bytes
  have b1 := bounds_i64 w1
  have b2 := bounds_u16 w2
  obtain ⟨nw, rfl⟩ := Int.eq_ofNat_of_zero_le b2.1
  have hnw : nw < 65536 := by omega
  clear w0 w1 w2 hcm b2
  have hl0 : l0.length ≤ 140737488351232 := by omega
  obtain ⟨i0, hi, hz0, hz1, hz2⟩ := info_parts info_u8''
  obtain ⟨l, hl⟩ : ∃ l, l0.take (l0.length / 2 * 2) = l := ⟨_, rfl⟩
  have hr : Row w a0 (bv l) := by rw [← hl, ← bv_take]; exact hr0.take _
  have hll : l.length = l0.length / 2 * 2 := by rw [← hl]; simp; omega
  have C1 : Hid ((bv l).length = l0.length / 2 * 2 * 1) := Lib.hid (by simp [hll])
  have C2 : Hid (0 + l0.length / 2 * 2 ≤ maxLen) := Lib.hid (by unfold maxLen; omega)
  have C3 : Hid ((0 + l0.length / 2 * 2) * 1 ≤ 140737488355328) := Lib.hid (by omega)
  have HLL := Lib.hid hll
  have hle : l.length ≤ 140737488351232 := by omega
  clear hl hll hr0
  have hown0 : (w.alloc (.cells #[] 5)).ownsRow w.heap.size 5 1 (.slice (some ⟨w.heap.size, 0, none⟩) 0 0) 0 [] :=
    World.ownsRow_lit w #[] 0 (Nat.le_refl _) (by unfold maxLen; omega) rfl
  have hb0 : Below w.heap.size w (w.alloc (.cells #[] 5)) := (Below.refl _ _).alloc (Nat.le_refl _) _
  have HO0 := Lib.hid hown0
  clear hown0
  go_enter Try.func6, Try.ntmps6
  by_cases hn0 : l.length = 0
  · have hln : ((l0.length / 2 * 2 : Nat) : Int) = 0 := by have := HLL.out; omega
    go_wp2_with (at_builtin; refine wpList_append_row _ rfl (.tmp 13) (.tmp 19) _ rfl w.heap.size 5 i0 _ 1 1 Try.underlying22 hi hz0 hz1 hz2 rfl (by omega) _ 0 [] rfl HO0.out a0 (l0.length / 2 * 2) cap0 (bv l) rfl C1.out (hr.below hb0) (bv_one l) C2.out C3.out hb0.size ?_; intro v1 w1 hown1 hg1 hat1; have hb1 := below_grown hb0 HO0.out (Nat.le_refl _) hb0.size hg1; simp only [Nat.zero_add, List.nil_append] at hown1; obtain ⟨A, c, rfl, hc1, hc2⟩ := own_shape hown1; clear hown1 hat1 hg1)
    refine (known_any _).mono ?_
    rintro e w3 ⟨rfl, hb3⟩
    go_wp2_with fail
    go_ret
    exact ⟨rfl, bel_trans hb1 hb3⟩
  · have hln : ¬ l0.length / 2 * 2 = 0 := by have := HLL.out; omega
    go_wp2_with (at_builtin; refine wpList_append_row _ rfl (.tmp 13) (.tmp 19) _ rfl w.heap.size 5 i0 _ 1 1 Try.underlying22 hi hz0 hz1 hz2 rfl (by omega) _ 0 [] rfl HO0.out a0 (l0.length / 2 * 2) cap0 (bv l) rfl C1.out (hr.below hb0) (bv_one l) C2.out C3.out hb0.size ?_; intro v1 w1 hown1 hg1 hat1; have hb1 := below_grown hb0 HO0.out (Nat.le_refl _) hb0.size hg1; simp only [Nat.zero_add, List.nil_append] at hown1; rw [← HLL.out] at hown1; obtain ⟨g, cap, rfl, hgB, hgl⟩ := hown1.form (by omega); have HO1 := Lib.hid hown1; clear hown1 hat1 hg1)
    have hev : l.length % 2 = 0 := by have := HLL.out; omega
    clear C1 C2 C3 HLL HO0 hb0 hln hr
    have S1 := Lib.hid (sl_of_own HO1.out)
    have hba : Below w1.heap.size w1 (w1.alloc (.cells #[.slice (some ⟨g, 0, none⟩) l.length cap] 22)) := (Below.refl _ _).alloc (Nat.le_refl _) _
    refine (internet_1 (v0 := .slice (some ⟨g, 0, none⟩) l.length cap) (l0 := l) (by simp [go_sem]) (S1.out.below hba) (by omega)).mono ?_
    rintro e w' ⟨rfl, rfl⟩
    have hb2 := bel_trans hb1 hba
    have HO2 := Lib.hid (own_below HO1.out hba)
    have hgl2 : g < (w1.alloc (.cells #[.slice (some ⟨g, 0, none⟩) l.length cap] 22)).heap.size := Nat.lt_of_lt_of_le hgl hba.size
    generalize w1.alloc (.cells #[.slice (some ⟨g, 0, none⟩) l.length cap] 22) = w2 at *
    clear HO1 S1 hba hb1 hgl
    have hc0 : inet l ≤ 65535 := by unfold inet; omega
    obtain ⟨c0, hc0e⟩ : ∃ c0, inet l = c0 := ⟨_, rfl⟩
    rw [hc0e] at hc0 ⊢
    have HC0 := Lib.hid hc0e
    clear hc0e
    go_wp2_with fail
    refine (mod_any _ _ (by omega) (by omega) (by omega) _).mono ?_
    rintro e w3 ⟨rfl, rfl⟩
    obtain ⟨i, hi1, hi2⟩ := emod_nat a1 ((l.length : Int) / 2) (by omega)
    rw [hi1]
    clear hi1
    have hi3 : 2 * i + 1 < l.length := by omega
    have hci := own_byte HO2.out (k := 2 * i) (by omega)
    have hck := own_byte HO2.out (k := 2 * i + 1) (by omega)
    have hfi := HO2.out.frozenAt (2 * i)
    have hfk := HO2.out.frozenAt (2 * i + 1)
    obtain ⟨hi8, hhi⟩ := u8_ex (nw / 256) (by omega)
    obtain ⟨lo8, hlo⟩ := u8_ex (nw % 256) (by omega)
    have e1 : (nw : Int) / 256 = (hi8.toNat : Int) := by omega
    have e2 : (nw : Int) % 256 = (lo8.toNat : Int) := by omega
    have HNW : Hid (hi8.toNat * 256 + lo8.toNat = nw) := Lib.hid (by omega)
    clear hhi hlo
    have HP := Lib.hid (fun nq => own_put (own_put (show (w2.drewN nq).ownsRow _ _ _ _ _ _ from HO2.out) (2 * i) hi8) (2 * i + 1) lo8)
    have HT := Lib.hid (tot_word (l := l) (i := 2 * i) hi3 (by omega) hi8 lo8)
    have HW := Lib.hid (word_le (l := l) (i := 2 * i) hi3 (by omega))
    have HLQ : Hid (((l.set (2 * i) hi8).set (2 * i + 1) lo8).length = l.length) := Lib.hid (by simp)
    have hx8 := l[2 * i].toNat_lt
    have hy8 := l[2 * i + 1].toNat_lt
    generalize (l.set (2 * i) hi8).set (2 * i + 1) lo8 = q at *
    generalize l[2 * i] = x at *
    generalize l[2 * i + 1] = y at *
    go_wp2_with fail
    go_quiet (fail)
    go_wp2_with fail
    obtain ⟨old, hold⟩ : ∃ old : Nat, x.toNat * 256 + y.toNat = old := ⟨_, rfl⟩
    have hold2 : (x.toNat : Int) * 256 + (y.toNat : Int) = (old : Int) := by omega
    have ho16 : old ≤ 65535 := by omega
    rw [hold] at HT HW
    rw [hold2]
    clear hold hold2
    have HO3 := Lib.hid (HP.out nq)
    have hb3 : Below w.heap.size w (((w2.drewN nq).setCell ⟨g, 2 * i, none⟩ (.int .u8 (hi8.toNat : Int))).setCell ⟨g, 2 * i + 1, none⟩ (.int .u8 (lo8.toNat : Int))) :=
      ((Below.setCell (w := w2.drewN nq) ⟨hb2.os, hb2.tape, hb2.output, hb2.size, hb2.block⟩ hgB _).setCell hgB _)
    obtain ⟨w3, hw3⟩ : ∃ w3, ((w2.drewN nq).setCell ⟨g, 2 * i, none⟩ (.int .u8 (hi8.toNat : Int))).setCell ⟨g, 2 * i + 1, none⟩ (.int .u8 (lo8.toNat : Int)) = w3 := ⟨_, rfl⟩
    rw [hw3] at hb3 HO3 ⊢
    clear hw3 hci hck hfi hfk HP HO2
    refine (update_any c0 old nw (by omega) (by omega) (by omega) _).mono ?_
    rintro e w4 ⟨rfl, rfl⟩
    have hc1 : upd c0 old nw ≤ 65535 := by unfold upd; omega
    have HC1 : Hid (upd (inet l) old nw = upd c0 old nw) := Lib.hid (by rw [HC0.out])
    generalize upd c0 old nw = c1 at *
    obtain ⟨ch, hch⟩ := u8_ex (c1 / 256) (by omega)
    obtain ⟨cl, hcl⟩ := u8_ex (c1 % 256) (by omega)
    have e3 : (c1 : Int) / 256 = (ch.toNat : Int) := by omega
    have e4 : (c1 : Int) % 256 = (cl.toNat : Int) := by omega
    have HCC : Hid (ch.toNat * 256 + cl.toNat = c1) := Lib.hid (by omega)
    clear hch hcl
    have HZ := Lib.hid (fun h0 => upd_zero (T' := 0) ho16 (by omega) (by rw [HNW.out] at HT; exact HT.out) (by rw [HLQ.out]; exact hev) HC1.out.symm ch cl HCC.out h0 HW.out)
    have D1 : Hid ((bv [ch, cl]).length = 2 * 1) := Lib.hid rfl
    have D2 : Hid (l.length + 2 ≤ maxLen) := Lib.hid (by unfold maxLen; omega)
    have D3 : Hid ((l.length + 2) * 1 ≤ 140737488355328) := Lib.hid (by omega)
    go_wp2_with (at_builtin; refine wpList_append_row _ rfl (.tmp 63) (.tmp 69) _ rfl w.heap.size 5 i0 _ 1 1 Try.underlying22 hi hz0 hz1 hz2 rfl (by omega) _ l.length (bv q) rfl (HO3.out.alloc _) (some ⟨w3.heap.size, 0, none⟩) 2 2 (bv [ch, cl]) rfl D1.out (row_new w3 5 (bv [ch, cl])) (bv_one _) D2.out D3.out (bel_alloc hb3 _).size ?_; intro v5 w5 hown5 hg5 hat5; have hb5 := below_grown (bel_alloc hb3 _) (HO3.out.alloc _) (Nat.le_refl _) (bel_alloc hb3 _).size hg5; rw [← bv_append] at hown5; obtain ⟨g5, cap5, rfl, hgB5, hgl5⟩ := hown5.form (by omega); have HO5 := Lib.hid hown5; clear hown5 hat5 hg5)
    generalize hqq : q ++ [ch, cl] = qq at *
    clear hqq
    have hqn : qq.length = l.length + 2 := by have := HO5.out.1; simpa using this
    obtain ⟨L, hL⟩ : ∃ L, l.length + 2 = L := ⟨_, rfl⟩
    rw [hL] at hqn HO5
    have hLL : L ≤ 140737488351234 := by omega
    have hq1 : L ≤ qq.length := by omega
    have hq2 : qq.length ≤ L := by omega
    rw [hL]
    clear hL hqn D1 D2 D3 HNW HT HW HCC HC1 HLQ HC0 HO3
    go_loop [11, 12] (fun z k => ∃ (j : Nat) (b : Bool), j ≤ L ∧ k = .int .i64 j ∧ z = .bool b ∧ Hid (b = (qq.take j).all (· == 0))) (fun _ k => L - (intOf k).toNat)
    case atStart => exact ⟨0, true, by omega, rfl, rfl, Lib.hid rfl⟩
    case round =>
      obtain ⟨j, b, hj, rfl, rfl, H⟩ := hrel
      by_cases hjl : j < L
      · have hcj := own_byte HO5.out (k := j) (by omega)
        have hst : (qq.take (j + 1)).all (· == 0) = ((qq.take j).all (· == 0) && qq[j] == 0) := by
          rw [take_snoc_ (by omega), List.all_append]; simp
        have HST := Lib.hid hst
        have hub := u8_beq0 qq[j]
        clear hst
        generalize qq[j] = t at *
        cases b
        · go_wp2_with fail
          go_round
          case rel => exact ⟨j + 1, false, by omega, by go_num, rfl, Lib.hid (by rw [HST.out, ← H.out]; rfl)⟩
          case measure => simp [intOf]; omega
        · go_wp2_with fail
          go_round
          case rel => exact ⟨j + 1, t == 0, by omega, by go_num, by rw [← hub], Lib.hid (by rw [HST.out, ← H.out]; simp)⟩
          case measure => simp [intOf]; omega
      · obtain rfl : j = L := by omega
        have hall : b = qq.all (· == 0) := by rw [H.out, List.take_of_length_le (by omega)]
        cases b
        · have HZZ := Lib.hid (HZ.out hall.symm)
          clear hall HZ
          go_wp2_with fail
          refine (known_any _).mono ?_
          rintro e w6 ⟨rfl, hb6⟩
          have HO6 := Lib.hid (own_below HO5.out hb6)
          have hba := (Below.refl w6.heap.size w6).alloc (Nat.le_refl _) (.cells #[.slice (some ⟨g5, 0, none⟩) j cap5] 22)
          go_wp2_with fail
          refine (internet_1 (v0 := .slice (some ⟨g5, 0, none⟩) j cap5) (l0 := qq) (by simp [go_sem]) ((sl_of_own HO6.out).below hba) (by omega)).mono ?_
          rintro e w7 ⟨rfl, rfl⟩
          rw [HZZ.out]
          go_wp2_with fail
          go_ret
          exact ⟨rfl, bel_alloc (bel_trans hb5 hb6) _⟩
        · clear hall HZ
          go_wp2_with fail
          refine (known_any _).mono ?_
          rintro e w6 ⟨rfl, hb6⟩
          go_wp2_with fail
          go_ret
          exact ⟨rfl, bel_trans hb5 hb6⟩
end Go.Proofs.Ytnfndhgcfhlemaa
