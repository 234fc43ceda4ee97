/- The walk of ChecksumBursts. -/
import Derived.Test.YtnfndhgcfhlemaaBurst
namespace Go.Proofs.Ytnfndhgcfhlemaa
open Go.RowKit
set_option linter.unusedVariables false

theorem and_bit (p k : Nat) (hp : p < 65536) : bits .and .u16 ((p : Int) / 2 ^ k) 1 = ((p / 2 ^ k % 2 : Nat) : Int) := by
  have h1 : p / 2 ^ k ≤ p := Nat.div_le_self _ _
  have h2 := u16_and_nat (p / 2 ^ k) 1 (by omega) (by omega)
  rw [Nat.and_one_is_mod] at h2
  rw [← h2]
  simp

theorem xor_bit (x : UInt8) (r : Nat) (hr : r < 8) : ∃ y : UInt8, bits .xor .u8 (x.toNat : Int) (2 ^ r % 256) = (y.toNat : Int) ∧ x.toNat ^^^ y.toNat = 2 ^ r := by
  have h1 : 2 ^ r < 256 := Nat.pow_lt_pow_right (a := 2) (m := r) (n := 8) (by omega) hr
  have hx := x.toNat_lt
  have h2 : x.toNat ^^^ 2 ^ r < 256 := Nat.xor_lt_two_pow (n := 8) hx h1
  obtain ⟨y, hy⟩ := u8_ex _ h2
  refine ⟨y, ?_, ?_⟩
  · rw [hy, ← u8_xor_nat x.toNat (2 ^ r) hx h1]
    congr 1
    have : ((2 ^ r : Nat) : Int) = 2 ^ r := by simp
    rw [← this]
    clear this h2 hy
    generalize 2 ^ r = q at *
    omega
  · rw [hy, ← Nat.xor_assoc, Nat.xor_self, Nat.zero_xor]
theorem burst_set {m : List UInt8} {c p k at_ : Nat} {y : UInt8} (hj : (at_ + k) / 8 < m.length) (hv : val m = c ^^^ (p % 2 ^ k) <<< at_) (hy : m[(at_ + k) / 8].toNat ^^^ y.toNat = 2 ^ ((at_ + k) % 8)) (hbit : p / 2 ^ k % 2 = 1) :
    val (m.set ((at_ + k) / 8) y) = c ^^^ (p % 2 ^ (k + 1)) <<< at_ := by
  rw [val_set m _ y hj, hy, hv, burst_step, if_pos hbit, Nat.shiftLeft_xor_distrib, ← Nat.xor_assoc]
  congr 1
  rw [Nat.shiftLeft_eq, Nat.shiftLeft_eq, ← Nat.pow_add, ← Nat.pow_add]
  congr 1
  omega

set_option maxHeartbeats 1000000 in
theorem walkChecksumBursts (a0 : Option Addr) (len0 cap0 : Nat) (z0 : List Int) (a1 : Int) (a2 : Int) (w : World) (w0 : IsRow .u8 w a0 len0 cap0 z0) (rr0 : cap0 * 1 ≤ 140737488351232) (w1 : (Lit.int .i64 a1).wf = true) (w2 : (Lit.int .u16 a2).wf = true) :
    Calls Try.prog 10 #[.slice a0 len0 cap0, .int .i64 a1, .int .u16 a2] w fun e w' => e = .returned (.bool true) ∧ Below w.heap.size w w' := by
  obtain ⟨l, rfl, hlc, hcm, hr⟩ := w0.bytes
  have b1 := bounds_i64 w1
  have b2 := bounds_u16 w2
  obtain ⟨p, rfl⟩ := Int.eq_ofNat_of_zero_le b2.1
  have hp16 : p < 65536 := by omega
  clear w0 w1 w2 hcm b2
  have hl : l.length ≤ 140737488351232 := by omega
  have S0 := Lib.hid (sl_mk rfl hlc hr)
  by_cases hp0 : p = 0
  · have hpb : ((p : Int) == 0) = true := by simp [hp0]
    clear hp0
    go_enter Try.func10, Try.ntmps10
    go_wp2_with fail
    refine (append_any S0.out hl).mono ?_
    rintro e w1 ⟨r, rfl, hown, hb1⟩
    have HO := Lib.hid hown
    clear hown
    go_wp2_with fail
    refine (known_any _).mono ?_
    rintro e w2 ⟨rfl, hb2⟩
    go_wp2_with fail
    go_ret
    exact ⟨rfl, bel_trans hb1 hb2⟩
  · have hpb : ((p : Int) == 0) = false := by simp; omega
    go_enter Try.func10, Try.ntmps10
    go_wp2_with fail
    refine (append_any S0.out hl).mono ?_
    rintro e w1 ⟨r, rfl, hown, hb1⟩
    obtain ⟨g, cap, rfl, hgB, hgl⟩ := hown.form (by omega)
    have hnn : ((l.length : Int) + 2 != (l.length : Int) + 2) = false := by simp
    have HO := Lib.hid hown
    clear hown
    go_wp2_with fail
    refine (mod_any _ _ (by omega) (by omega) (by omega) _).mono ?_
    rintro e w' ⟨rfl, rfl⟩
    obtain ⟨at_, hat, hatl⟩ := emod_nat a1 (8 * ((l.length : Int) + 2)) (by omega)
    rw [hat]
    clear hat
    have HC := Lib.hid (checkB_append l)
    have hcl : (l ++ crcTail l).length = l.length + 2 := by simp [crcTail]
    generalize l ++ crcTail l = c at *
    obtain ⟨L, hL⟩ : ∃ L, l.length + 2 = L := ⟨_, rfl⟩
    go_wp2_with fail
    go_loopw [8, 9] (fun ch i wr => ∃ (k : Nat) (m : List UInt8) (b : Bool), k ≤ 16 ∧ at_ + k ≤ 8 * L ∧ i = .int .i64 k ∧ ch = .bool b ∧ Hid (b = decide (p % 2 ^ k ≠ 0) ∧ m.length = L ∧ val m = val c ^^^ (p % 2 ^ k) <<< at_ ∧ wr.ownsRow w.heap.size 5 1 (.slice (some ⟨g, 0, none⟩) L cap) L (bv m)) ∧ Below w.heap.size w wr) (fun _ i _ => 16 - (intOf i).toNat)
    case atStart => exact ⟨0, c, false, by omega, by omega, rfl, rfl, Lib.hid ⟨by simp [Nat.mod_one], by omega, by simp [Nat.mod_one], by rw [← hL]; exact HO.out⟩, hb1⟩
    case round =>
      obtain ⟨k, m, b, hk, hak, rfl, rfl, H, hbr⟩ := hrel
      by_cases hk16 : k < 16
      · by_cases hka : at_ + k < 8 * L
        · have hml := H.out.2.1
          have hj : (at_ + k) / 8 < m.length := by omega
          have hcell : wr.cell? ⟨g, (at_ + k) / 8, none⟩ = some (.int .u8 (m[(at_ + k) / 8].toNat : Int)) := by
            rw [H.out.2.2.2.cellAt _ (by omega)]; simp [bv, hj]
          have hfr := H.out.2.2.2.frozenAt ((at_ + k) / 8)
          have hx8 := m[(at_ + k) / 8].toNat_lt
          generalize hx : m[(at_ + k) / 8] = x at *
          have HX := Lib.hid hx
          clear hx hml
          by_cases hbit : p / 2 ^ k % 2 = 1
          · have hand : bits .and .u16 ((p : Int) / 2 ^ k) 1 = 1 := (and_bit p k hp16).trans (by omega)
            go_wp2_with fail
            go_roundw
            case rel =>
              obtain ⟨y, hy1, hy2⟩ := xor_bit x ((at_ + k) % 8) (by omega)
              obtain ⟨ho1, _⟩ := H.out.2.2.2.stored ((at_ + k) / 8) (.int .u8 (y.toNat : Int))
              have hset : (bv m).set ((at_ + k) / 8) (.int .u8 (y.toNat : Int)) = bv (m.set ((at_ + k) / 8) y) := by simp [bv, List.map_set]
              rw [hset] at ho1
              have hvs := burst_set (y := y) hj H.out.2.2.1 (by rw [HX.out]; exact hy2) hbit
              have hnz : p % 2 ^ (k + 1) ≠ 0 := by
                have h1 : p % 2 ^ (k + 1) = p % 2 ^ k + 2 ^ k * (p / 2 ^ k % 2) := by rw [Nat.pow_succ, Nat.mod_mul]
                have := Nat.two_pow_pos k
                rw [hbit] at h1
                omega
              rw [hy1]
              exact ⟨k + 1, _, true, by omega, by omega, by go_num, rfl, Lib.hid ⟨by simp [hnz], by rw [List.length_set]; exact H.out.2.1, hvs, ho1⟩, hbr.setCell hgB _⟩
            case measure => simp [intOf]; omega
          · have hand : bits .and .u16 ((p : Int) / 2 ^ k) 1 = 0 := (and_bit p k hp16).trans (by omega)
            go_wp2_with fail
            go_roundw
            case rel =>
              have hst : p % 2 ^ (k + 1) = p % 2 ^ k := by rw [burst_step, if_neg hbit]
              exact ⟨k + 1, m, b, by omega, by omega, by go_num, rfl, Lib.hid (by rw [hst]; exact H.out), hbr⟩
            case measure => simp [intOf]; omega
        · go_wp2_with fail
          refine (known_any _).mono ?_
          rintro e w2 ⟨rfl, hb2⟩
          go_wp2_with fail
          refine (check_any (sl_of_own (own_below H.out.2.2.2 hb2)) (by rw [H.out.2.1]; omega)).mono ?_
          rintro e w3 ⟨rfl, rfl⟩
          have hck := burst_check (p := p) (i := k) (by omega) (H.out.2.1.trans (by omega)) HC.out H.out.2.2.1 (by omega) (by omega)
          rw [hck, ← H.out.1]
          go_wp2_with fail
          go_ret
          exact ⟨by cases b <;> rfl, bel_trans hbr hb2⟩
      · go_wp2_with fail
        refine (known_any _).mono ?_
        rintro e w2 ⟨rfl, hb2⟩
        go_wp2_with fail
        refine (check_any (sl_of_own (own_below H.out.2.2.2 hb2)) (by rw [H.out.2.1]; omega)).mono ?_
        rintro e w3 ⟨rfl, rfl⟩
        have hck := burst_check (p := p) (i := k) (by omega) (H.out.2.1.trans (by omega)) HC.out H.out.2.2.1 (by omega) (by omega)
        rw [hck, ← H.out.1]
        go_wp2_with fail
        go_ret
        exact ⟨by cases b <;> rfl, bel_trans hbr hb2⟩
end Go.Proofs.Ytnfndhgcfhlemaa
