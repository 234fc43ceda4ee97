/- The contracts of the references of Sum, Internet and Update. -/
import Derived.Test.YtnfndhgcfhlemaaSums
import Derived.Test.YtnfndhgcfhlemaaOwn
namespace Go.Proofs.Ytnfndhgcfhlemaa
open Go.RowKit
set_option linter.unusedVariables false

theorem info_u8s : (Try.prog.info? 5).map (fun i => (i.zero, i.size, i.bytes)) = some (some (.int .u8 0), 1, 1) := by kernel_rfl

set_option maxHeartbeats 400000 in
theorem rfold_any (n : Nat) (w : World) (hn : n ≤ 4611686018427387904) :
    Calls Try.prog 30 #[.int .i64 n] w fun e w' => e = .returned (.int .u16 (foldN n)) ∧ w = w' := by
  go_enter Try.func30, Try.ntmps30
  go_wp2
  go_loop [0] (fun v => ∃ k : Nat, k ≤ 4611686018427387904 ∧ v = .int .i64 k ∧ Hid (foldN k = foldN n)) (fun v => (intOf v).toNat)
  case atStart => exact ⟨n, hn, rfl, Lib.hid rfl⟩
  case round =>
    obtain ⟨k, hk, rfl, hf⟩ := hrel
    by_cases hlt : 65535 < k
    · go_wp2
      go_round
      case rel => exact ⟨k % 65536 + k / 65536, by omega, by go_num, Lib.hid ((foldN_step hlt).trans hf.out)⟩
      case measure => simp [intOf]; omega
    · go_wp2
      go_ret
      refine ⟨?_, rfl⟩
      have h1 := foldN_small (n := k) (by omega)
      have h2 := hf.out
      rw [← h2, h1]
      rfl

theorem rupdate_any (s o n : Nat) (hs : s ≤ 65535) (ho : o ≤ 65535) (hn : n ≤ 65535) (w : World) :
    Calls Try.prog 20 #[.int .u16 s, .int .u16 o, .int .u16 n] w fun e w' => e = .returned (.int .u16 (upd s o n)) ∧ w = w' := by
  have hF := foldN_le ((65535 - s) + (65535 - o) + n)
  have HI : Hid ((upd s o n : Int) = 65535 - (foldN ((65535 - s) + (65535 - o) + n) : Int)) := Lib.hid (by unfold upd; omega)
  go_enter Try.func20, Try.ntmps20
  go_wp2_with fail
  rw [show (65535 - (s : Int) + (65535 - (o : Int)) + (n : Int)) = ((((65535 - s) + (65535 - o) + n : Nat)) : Int) from by omega]
  refine (rfold_any _ _ (by omega)).mono ?_
  rintro e w' ⟨rfl, rfl⟩
  go_wp2_with fail
  go_ret
  exact ⟨by rw [HI.out]; rfl, rfl⟩

theorem sum_two {l : List UInt8} {k : Nat} (hk : k + 1 < l.length) (he : k % 2 = 0) : foldN (foldN (tot true (l.take k)) + (l[k].toNat * 256 + l[k + 1].toNat)) = foldN (tot true (l.take (k + 2))) := by
  have e : l.take (k + 2) = l.take k ++ [l[k], l[k + 1]] := by
    rw [show k + 2 = (k + 1) + 1 from rfl, take_snoc_ hk, take_snoc_ (by omega), List.append_assoc]; rfl
  rw [foldN_add, e, tot_append, side_even (by simp; omega)]
  simp [tot]
theorem sum_one {l : List UInt8} {k : Nat} (hk : k + 1 = l.length) (he : k % 2 = 0) : foldN (foldN (tot true (l.take k)) + l[k].toNat * 256) = foldN (tot true (l.take (k + 2))) := by
  have e : l.take (k + 2) = l.take k ++ [l[k]] := by
    rw [← take_snoc_ (by omega), List.take_of_length_le (by omega), List.take_of_length_le (by omega)]
  rw [foldN_add, e, tot_append, side_even (by simp; omega)]
  simp [tot]

set_option maxHeartbeats 400000 in
theorem rsum_sl {w : World} {v : Value} {l : List UInt8} (h : Sl w v l) (hf : l.length ≤ 281474976710000) :
    Calls Try.prog 18 #[v] w fun e w' => e = .returned (.int .u16 (foldN (tot true l))) ∧ w = w' := by
  obtain ⟨A, c, rfl, hc, hr⟩ := h
  go_enter Try.func18, Try.ntmps18
  go_wp2_with fail
  go_loop [3, 4] (fun s i => ∃ k : Nat, k ≤ l.length + 1 ∧ k % 2 = 0 ∧ i = .int .i64 k ∧ s = .int .u16 (foldN (tot true (l.take k)))) (fun _ i => l.length + 1 - (intOf i).toNat)
  case atStart => exact ⟨0, by omega, rfl, rfl, rfl⟩
  case round =>
    obtain ⟨k, hk, hke, rfl, rfl⟩ := hrel
    have hF := foldN_le (tot true (l.take k))
    by_cases hkl : k < l.length
    · obtain ⟨b, off, rfl, _, hcs⟩ := hr.bytes (by omega)
      have hx8 := l[k].toNat_lt
      by_cases hk1 : k + 1 < l.length
      · have hc1 := hcs k hkl
        have hc2 := hcs (k + 1) hk1
        have HS := Lib.hid (sum_two hk1 hke)
        have hy8 := l[k + 1].toNat_lt
        clear hcs hr
        generalize l[k] = x at *
        generalize l[k + 1] = y at *
        have HKE := Lib.hid hke
        clear hke
        generalize foldN (tot true (l.take k)) = s at *
        go_wp2_with fail
        rw [show ((s : Int) + (256 * (x.toNat : Int) + (y.toNat : Int))) = ((s + (x.toNat * 256 + y.toNat) : Nat) : Int) from by omega]
        refine (rfold_any _ _ (by omega)).mono ?_
        rintro e w' ⟨rfl, rfl⟩
        rw [HS.out]
        go_wp2_with fail
        go_round
        case rel => exact ⟨k + 2, by omega, by have := HKE.out; omega, by go_num, rfl⟩
        case measure => simp [intOf]; omega
      · have hc1 := hcs k hkl
        have HS := Lib.hid (sum_one (l := l) (k := k) (by omega) hke)
        clear hcs hr
        generalize l[k] = x at *
        have HKE := Lib.hid hke
        clear hke
        generalize foldN (tot true (l.take k)) = s at *
        go_wp2_with fail
        rw [show ((s : Int) + 256 * (x.toNat : Int)) = ((s + x.toNat * 256 : Nat) : Int) from by omega]
        refine (rfold_any _ _ (by omega)).mono ?_
        rintro e w' ⟨rfl, rfl⟩
        rw [HS.out]
        go_wp2_with fail
        go_round
        case rel => exact ⟨k + 2, by omega, by have := HKE.out; omega, by go_num, rfl⟩
        case measure => simp [intOf]; omega
    · have HE : Hid (foldN (tot true (l.take k)) = foldN (tot true l)) := Lib.hid (by rw [List.take_of_length_le (by omega)])
      generalize foldN (tot true (l.take k)) = s at *
      go_wp2_with fail
      go_ret
      exact ⟨by rw [← HE.out]; rfl, rfl⟩

set_option maxHeartbeats 1000000 in
theorem rinternet_of (A : Option Addr) (n c : Nat) (ls : List (List UInt8)) (w : World) (h : Parts w A ls) (hn : ls.length = n) (hl : n ≤ 65536) (hf : ls.flatten.length ≤ 140737488351232) :
    Calls Try.prog 19 #[.slice A n c] w fun e w' => e = .returned (.int .u16 (inet ls.flatten)) ∧ Below w.heap.size w w' := by
  obtain ⟨i0, hi, hz0, hz1, hz2⟩ := info_parts info_u8s
  have hF := foldN_le (tot true ls.flatten)
  have HI : Hid ((inet ls.flatten : Int) = 65535 - (foldN (tot true ls.flatten) : Int)) := Lib.hid (by unfold inet; omega)
  have HN := Lib.hid hn
  clear hn
  go_enter Try.func19, Try.ntmps19
  go_wp2_with fail
  go_loopw [3, 4] (fun v i wr => ∃ k : Nat, k ≤ n ∧ i = .int .i64 k ∧ Hid (wr.ownsRow w.heap.size 5 1 v (ls.take k).flatten.length (bv (ls.take k).flatten)) ∧ Below w.heap.size w wr) (fun _ i _ => n - (intOf i).toNat)
  case atStart => exact ⟨0, by omega, rfl, Lib.hid (World.ownsRow_nil _ _ _ _), Below.refl _ _⟩
  case round =>
    obtain ⟨k, hk, rfl, HO, hb⟩ := hrel
    obtain ⟨A3, c3, rfl, hc3, hm3⟩ := own_shape HO.out
    by_cases hkl : k < n
    · obtain ⟨l, hl1⟩ : ∃ l, ls[k]? = some l := ⟨_, List.getElem?_eq_getElem (by rw [HN.out]; exact hkl)⟩
      obtain ⟨ad, B, cc, rfl, hc, _, hr⟩ := (h.below hb) k l hl1
      have hft := flatten_take_succ hl1
      have hfl := flatten_take_le ls (k + 1)
      rw [hft, List.length_append] at hfl
      have HF := Lib.hid hft
      clear hl1 hft
      generalize hpre : (ls.take k).flatten = pre at *
      clear hpre
      have C1 : Hid ((bv l).length = l.length * 1) := Lib.hid (by simp)
      have C2 : Hid (pre.length + l.length ≤ maxLen) := Lib.hid (by unfold maxLen; omega)
      have C3 : Hid ((pre.length + l.length) * 1 ≤ 140737488355328) := Lib.hid (by omega)
      go_wp2_with (at_builtin; refine wpList_append_row _ rfl (.tmp 11) (.tmp 15) _ rfl w.heap.size 5 i0 _ 1 1 Try.underlying22 hi hz0 hz1 hz2 rfl (by omega) _ pre.length (bv pre) rfl HO.out B l.length cc (bv l) rfl C1.out hr (bv_one l) C2.out C3.out hb.size ?_; intro v1 w1 hown1 hg1 hat1; have hb1 := below_grown hb HO.out (Nat.le_refl _) hb.size hg1; rw [← bv_append, ← List.length_append] at hown1; have HO1 := Lib.hid hown1; clear hown1 hat1 hg1)
      go_roundw
      case rel => exact ⟨k + 1, by omega, by go_num, by rw [HF.out]; exact HO1, hb1⟩
      case measure => simp [intOf]; omega
    · obtain rfl : k = n := by omega
      have HS : Hid (Sl wr (.slice A3 (ls.take k).flatten.length c3) ls.flatten) := Lib.hid (by
        have := sl_of_own HO.out
        have e : ls.take k = ls := List.take_of_length_le (by rw [HN.out]; omega)
        rw [e] at this ⊢
        exact this)
      clear HO
      generalize (ls.take k).flatten.length = m at *
      go_wp2_with fail
      refine (rsum_sl HS.out (by omega)).mono ?_
      rintro e w' ⟨rfl, rfl⟩
      go_wp2_with fail
      go_ret
      exact ⟨by rw [HI.out]; rfl, hb⟩
end Go.Proofs.Ytnfndhgcfhlemaa
