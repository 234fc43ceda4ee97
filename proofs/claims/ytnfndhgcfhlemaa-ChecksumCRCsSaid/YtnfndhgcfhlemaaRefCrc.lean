/- The contracts of the references of Extend, CRC, Append and Check, and of Same. -/
import Derived.Test.YtnfndhgcfhlemaaBurst
import Derived.Deep.QuietTactic
import Derived.BigQuiet
namespace Go.Proofs.Ytnfndhgcfhlemaa
open Go.RowKit
set_option linter.unusedVariables false

set_option maxHeartbeats 400000 in
theorem rextend_any (c : Nat) (hc : c < 65536) (A : Option Addr) (cap : Nat) (l : List UInt8) (w : World) (h : Row w A (bv l)) (hl : l.length ≤ 281474976710000) :
    Calls Try.prog 22 #[.int .u16 c, .slice A l.length cap] w fun e w' => e = .returned (.int .u16 (crc c l)) ∧ w = w' := by
  go_enter Try.func22, Try.ntmps22
  go_wp2
  go_loop [0, 5] (fun r i => ∃ k : Nat, k ≤ l.length ∧ i = .int .i64 k ∧ r = .int .u16 (crc c (l.take k))) (fun _ i => l.length - (intOf i).toNat)
  case atStart => exact ⟨0, Nat.zero_le _, rfl, rfl⟩
  case round =>
    obtain ⟨k, hk, rfl, rfl⟩ := hrel
    by_cases hlt : k < l.length
    · obtain ⟨ad, rfl, _, hcb⟩ := h.byte hlt
      have H1 := Lib.hid (take_snoc_ hlt)
      have H2 := Lib.hid (crc_snoc c (l.take k) l[k])
      have hx := xor_byte_lt (crc_lt hc (l.take k)) l[k]
      have hx1 := u16_xor_nat (crc c (l.take k)) l[k].toNat (crc_lt hc _) (by have := l[k].toNat_lt; omega)
      have H3 : Hid (crcByte (crc c (l.take k)) l[k] = crcBits 8 (crc c (l.take k) ^^^ l[k].toNat)) := Lib.hid rfl
      have hr := crc_lt hc (l.take k)
      have hb := l[k].toNat_lt
      generalize l[k].toNat = b at *
      generalize hR : crc c (l.take k) = r at *
      clear hR
      go_wp2
      generalize r ^^^ b = x at *
      clear hx1
      go_loop [0, 6] (fun r i => ∃ k : Nat, k ≤ 8 ∧ i = .int .i64 k ∧ r = .int .u16 (crcBits k x)) (fun _ i => 8 - (intOf i).toNat)
      case atStart => exact ⟨0, Nat.zero_le _, rfl, rfl⟩
      case round =>
        obtain ⟨j, hj, rfl, rfl⟩ := hrel
        by_cases hj8 : j < 8
        · have hy := crcBits_lt j hx
          have HB : Hid (crcBits (j + 1) x = crcBit (crcBits j x)) := Lib.hid rfl
          generalize crcBits j x = y at *
          have ha : bits .and .u16 (y : Int) 1 = ((y % 2 : Nat) : Int) := by
            have := u16_and_nat y 1 hy (by omega)
            rw [Nat.and_one_is_mod] at this
            exact this
          go_wp2_with fail
          · go_round
            case rel => exact ⟨j + 1, by omega, by go_num, by rw [HB.out]; exact crcBit_odd hy ‹_›⟩
            case measure => simp [intOf]; omega
          · go_round
            case rel => exact ⟨j + 1, by omega, by go_num, by rw [HB.out]; exact crcBit_even ‹_›⟩
            case measure => simp [intOf]; omega
        · obtain rfl : j = 8 := by omega
          rw [← H3.out]
          go_wp2_with fail
          go_round
          case rel => exact ⟨k + 1, by omega, by go_num, by rw [H1.out, H2.out]⟩
          case measure => simp [intOf]; omega
    · obtain rfl : k = l.length := by omega
      go_wp2_with fail
      go_ret
      exact ⟨rfl, rfl⟩

theorem rextend_sl {c : Nat} {v : Value} {l : List UInt8} {w : World} (hc : c < 65536) (h : Sl w v l) (hl : l.length ≤ 281474976710000) :
    Calls Try.prog 22 #[.int .u16 c, v] w fun e w' => e = .returned (.int .u16 (crc c l)) ∧ w = w' := by
  obtain ⟨A, cap, rfl, _, hr⟩ := h
  exact rextend_any c hc A cap l w hr hl

theorem rcrc_any (A : Option Addr) (n cap : Nat) (l : List UInt8) (w : World) (h : Row w A (bv l)) (hn : l.length = n) (hl : n ≤ 281474976710000) :
    Calls Try.prog 23 #[.slice A n cap] w fun e w' => e = .returned (.int .u16 (crc 0 l)) ∧ w = w' := by
  subst hn
  go_enter Try.func23, Try.ntmps23
  go_wp2_with fail
  refine (rextend_any 0 (by omega) A cap l w h hl).mono ?_
  rintro e w' ⟨rfl, rfl⟩
  go_wp2_with fail
  go_ret
  exact ⟨rfl, rfl⟩

theorem rcrc_sl {v : Value} {l : List UInt8} {w : World} (h : Sl w v l) (hl : l.length ≤ 281474976710000) :
    Calls Try.prog 23 #[v] w fun e w' => e = .returned (.int .u16 (crc 0 l)) ∧ w = w' := by
  obtain ⟨A, cap, rfl, _, hr⟩ := h
  exact rcrc_any A _ cap l w hr rfl hl
set_option maxHeartbeats 1000000 in
theorem rappend_any {v : Value} {l : List UInt8} {w : World} (h : Sl w v l) (hl : l.length ≤ 140737488351232) :
    Calls Try.prog 21 #[v] w fun e w' => ∃ r, e = .returned r ∧ w'.ownsRow w.heap.size 5 1 r (l.length + 2) (bv (l ++ crcTail l)) ∧ Below w.heap.size w w' := by
  obtain ⟨i0, hi, hz0, hz1, hz2⟩ := info_parts info_u8
  obtain ⟨A, c, rfl, hc, hr⟩ := h
  have hcl : crc 0 l < 65536 := crc_lt (by omega) l
  obtain ⟨lo, hlo⟩ := u8_ex (crc 0 l % 256) (by omega)
  obtain ⟨hi8, hhi⟩ := u8_ex (crc 0 l / 256) (by omega)
  have HT : Hid (crcTail l = [lo, hi8]) := Lib.hid (by
    unfold crcTail
    rw [← hlo, ← hhi]
    simp)
  have e1 : (crc 0 l : Int) / 256 = (hi8.toNat : Int) := by omega
  have e2 : (crc 0 l : Int) % 256 = (lo.toNat : Int) := by omega
  clear hlo hhi
  go_enter Try.func21, Try.ntmps21
  go_wp2_with fail
  refine (rcrc_any _ _ _ l _ hr rfl (by omega)).mono ?_
  rintro e w' ⟨rfl, rfl⟩
  have hown0 : (w.alloc (.cells #[] 5)).ownsRow w.heap.size 5 1 (.slice (some ⟨w.heap.size, 0, none⟩) 0 0) 0 [] :=
    World.ownsRow_lit w #[] 0 (Nat.le_refl _) (by unfold maxLen; omega) rfl
  have hb0 : Below w.heap.size w (w.alloc (.cells #[] 5)) := (Below.refl _ _).alloc (Nat.le_refl _) _
  have HO0 := Lib.hid hown0
  clear hown0
  have C1 : Hid ((bv l).length = l.length * 1) := Lib.hid (by simp)
  have C2 : Hid (0 + l.length ≤ maxLen) := Lib.hid (by unfold maxLen; omega)
  have C3 : Hid ((0 + l.length) * 1 ≤ 140737488355328) := Lib.hid (by omega)
  have D1 : Hid ((bv [lo, hi8]).length = 2 * 1) := Lib.hid rfl
  have D2 : Hid (l.length + 2 ≤ maxLen) := Lib.hid (by unfold maxLen; omega)
  have D3 : Hid ((l.length + 2) * 1 ≤ 140737488355328) := Lib.hid (by omega)
  go_wp2_with (first
    | (at_builtin; refine wpList_append_row _ rfl (.tmp 6) (.tmp 7) _ rfl w.heap.size 5 i0 _ 1 1 Try.underlying22 hi hz0 hz1 hz2 rfl (by omega) _ 0 [] rfl HO0.out A l.length c (bv l) rfl C1.out (hr.below hb0) (bv_one l) C2.out C3.out hb0.size ?_; intro v1 w1 hown1 hg1 hat1; have hb1 := below_grown hb0 HO0.out (Nat.le_refl _) hb0.size hg1; simp only [Nat.zero_add, List.nil_append] at hown1; have HO1 := Lib.hid hown1; clear hown1 hat1 hg1)
    | (at_builtin; refine wpList_append_row _ rfl (.tmp 8) (.tmp 14) _ rfl w.heap.size 5 i0 _ 1 1 Try.underlying22 hi hz0 hz1 hz2 rfl (by omega) _ l.length (bv l) rfl (HO1.out.alloc _) (some ⟨w1.heap.size, 0, none⟩) 2 2 (bv [lo, hi8]) rfl D1.out (row_new w1 5 (bv [lo, hi8])) (bv_one _) D2.out D3.out (bel_alloc hb1 _).size ?_; intro v2 w2 hown2 hg2 hat2; have hb2 := below_grown (bel_alloc hb1 _) (HO1.out.alloc _) (Nat.le_refl _) (bel_alloc hb1 _).size hg2; rw [← bv_append] at hown2; have HO2 := Lib.hid hown2; clear hown2 hat2 hg2))
  go_ret
  exact ⟨_, rfl, by rw [HT.out]; exact HO2.out, hb2⟩
set_option maxHeartbeats 1000000 in
theorem rcheck_any {v : Value} {l : List UInt8} {w : World} (h : Sl w v l) (hl : l.length ≤ 281474976710000) :
    Calls Try.prog 27 #[v] w fun e w' => e = .returned (.bool (checkB l)) ∧ w = w' := by
  obtain ⟨A, c, rfl, hc, hr⟩ := h
  by_cases h2 : l.length < 2
  · have HK := Lib.hid (checkB_short h2)
    go_enter Try.func27, Try.ntmps27
    go_wp2_with fail
    go_ret
    exact ⟨by rw [HK.out]; rfl, rfl⟩
  · obtain ⟨n, hn⟩ : ∃ n, l.length = n + 2 := ⟨l.length - 2, by omega⟩
    have hcl : crc 0 (l.take n) < 65536 := crc_lt (by omega) _
    obtain ⟨lo, hlo⟩ := u8_ex (crc 0 (l.take n) % 256) (by omega)
    obtain ⟨hi8, hhi⟩ := u8_ex (crc 0 (l.take n) / 256) (by omega)
    have HK := Lib.hid (checkB_long hn lo hi8 hlo hhi)
    obtain ⟨b, off, rfl, _, hcs⟩ := hr.bytes (by omega)
    have hc0 := hcs n (by omega)
    have hc1 := hcs (n + 1) (by omega)
    clear hcs
    generalize hx : l[n] = x at *
    generalize hy : l[n + 1] = y at *
    have S0 := Lib.hid (sl_to (m := n) hr hc (by omega))
    have e1 : (crc 0 (l.take n) : Int) / 256 = (hi8.toNat : Int) := by omega
    have e2 : (crc 0 (l.take n) : Int) % 256 = (lo.toNat : Int) := by omega
    have e3 : (l.length : Int) - 2 = (n : Int) := by omega
    have hnl : n + 2 ≤ l.length := by omega
    have hnl2 : l.length ≤ n + 2 := by omega
    clear hlo hhi hx hy hn h2 hr
    obtain ⟨cr, hcr⟩ : ∃ cr, crc 0 (l.take n) = cr := ⟨_, rfl⟩
    rw [hcr] at hcl e1 e2
    have HR := Lib.hid hcr
    clear hcr
    have u1 := u8_beq x lo
    have u2 := u8_beq y hi8
    go_enter Try.func27, Try.ntmps27
    go_wp2_with fail
    refine (rcrc_sl S0.out (by rw [List.length_take]; omega)).mono ?_
    rintro e w' ⟨rfl, rfl⟩
    rw [HR.out]
    cases hxy : (x == lo)
    all_goals
      rw [hxy] at u1 HK
      clear hxy
      go_wp2_with fail
    · go_ret
      exact ⟨by rw [HK.out]; rfl, rfl⟩
    · go_ret
      exact ⟨by rw [HK.out]; rfl, rfl⟩

set_option maxHeartbeats 1000000 in
theorem same_any {v u : Value} {l m : List UInt8} {w : World} (h : Sl w v l) (k : Sl w u m) (hl : l.length ≤ 281474976710000) (hm : m.length ≤ 281474976710000) :
    Calls Try.prog 24 #[v, u] w fun e w' => e = .returned (.bool (l == m)) ∧ ∃ n, w' = w.drewN n := by
  obtain ⟨A, c, rfl, hc, hr⟩ := h
  obtain ⟨B, d, rfl, hd, hq⟩ := k
  by_cases hne : l.length = m.length
  · have hnb : ((l.length : Int) != (m.length : Int)) = false := by simp [hne]
    have HNE := Lib.hid hne
    have hle : l.length ≤ m.length := by omega
    clear hne
    go_enter Try.func24, Try.ntmps24
    go_wp2_with fail
    go_loopw [5] (fun i wr => ∃ k n : Nat, k ≤ l.length ∧ i = .int .i64 k ∧ wr = w.drewN n ∧ Hid (l.take k = m.take k)) (fun i _ => l.length - (intOf i).toNat)
    case atStart => exact ⟨0, 0, by omega, rfl, rfl, Lib.hid rfl⟩
    case round =>
      obtain ⟨k, n, hk, rfl, rfl, H⟩ := hrel
      by_cases hkl : k < l.length
      · obtain ⟨b, off, rfl, _, hcs⟩ := hr.bytes (by omega)
        obtain ⟨b', off', rfl, _, hcs'⟩ := hq.bytes (by omega)
        have hc1 := hcs k hkl
        have hc2 := hcs' k (by omega)
        have k1 : (0 : Int) ≤ (k : Int) := by omega
        have k2 : (k : Int) < (l.length : Int) := by omega
        have k3 : (k : Int) < (m.length : Int) := by omega
        have HT1 := Lib.hid (take_snoc_ hkl)
        have HT2 := Lib.hid (take_snoc_ (l := m) (k := k) (by omega))
        have HD : Hid (l[k] ≠ m[k] → (l == m) = false) := Lib.hid (fun hx => by
          rw [beq_eq_false_iff_ne]; rintro rfl; exact hx rfl)
        clear hcs hcs'
        generalize l[k] = x at *
        generalize m[k] = y at *
        by_cases hxy : x = y
        · subst hxy
          have hb : ((x.toNat : Int) != (x.toNat : Int)) = false := by simp
          go_wp2_with fail
          go_quiet (fail)
          go_wp2_with fail
          go_roundw
          case rel => exact ⟨k + 1, n + nq, by omega, by go_num, by first | rfl | rw [World.drewN_drewN], Lib.hid (by rw [HT1.out, HT2.out, H.out])⟩
          case measure => simp [intOf]; omega
        · have hb : ((x.toNat : Int) != (y.toNat : Int)) = true := by
            rw [bne_iff_ne]; intro he; exact hxy (UInt8.toNat_inj.1 (by omega))
          go_wp2_with fail
          go_quiet (fail)
          go_wp2_with fail
          go_ret
          exact ⟨by rw [HD.out hxy]; rfl, n + nq, by first | rfl | rw [World.drewN_drewN]⟩
      · have HE : Hid ((l == m) = true) := Lib.hid (by
          have h1 := H.out
          rw [List.take_of_length_le (by omega), List.take_of_length_le (by rw [← HNE.out]; omega)] at h1
          rw [h1]; simp)
        go_wp2_with fail
        go_ret
        exact ⟨by rw [HE.out]; rfl, n, rfl⟩
  · have hnb : ((l.length : Int) != (m.length : Int)) = true := by rw [bne_iff_ne]; omega
    have HE : Hid ((l == m) = false) := Lib.hid (by rw [beq_eq_false_iff_ne]; rintro rfl; exact hne rfl)
    go_enter Try.func24, Try.ntmps24
    go_wp2_with fail
    go_ret
    exact ⟨by rw [HE.out]; rfl, 0, rfl⟩
end Go.Proofs.Ytnfndhgcfhlemaa
