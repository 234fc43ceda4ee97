/- The contracts of checksum.fold, total, Sum, Internet and Update. -/
import Derived.Test.YtnfndhgcfhlemaaChecked
import Derived.Test.YtnfndhgcfhlemaaPlain
import Derived.Test.YtnfndhgcfhlemaaWords
import Derived.WalkSpells
import Derived.Outline
namespace Go.Proofs.Ytnfndhgcfhlemaa
open Go.RowKit
set_option linter.unusedVariables false

set_option maxHeartbeats 400000 in
theorem fold_any (n : Nat) (w : World) (hn : n ≤ 9223372036854775807) :
    Calls Try.prog 28 #[.int .u64 n] w fun e w' => e = .returned (.int .u16 (foldN n)) ∧ w = w' := by
  go_enter Try.func28, Try.ntmps28
  go_wp2
  go_loop [0] (fun v => ∃ k : Nat, k ≤ 9223372036854775807 ∧ v = .int .u64 k ∧ Hid (foldN k = foldN n)) (fun v => (intOf v).toNat)
  case atStart => exact ⟨n, hn, rfl, Lib.hid rfl⟩
  case round =>
    obtain ⟨k, hk, rfl, hf⟩ := hrel
    by_cases hlt : 65535 < k
    · go_wp2
      go_round
      case rel => exact ⟨k % 65536 + k / 65536, by omega, by go_num, Lib.hid ((foldN_step hlt).trans hf.out)⟩
      case measure => simp [intOf]; omega
    · go_wp2
      go_ret
      refine ⟨?_, rfl⟩
      have h1 := foldN_small (n := k) (by omega)
      have h2 := hf.out
      rw [← h2, h1]
      rfl

set_option maxHeartbeats 400000 in
theorem total_any (A : Option Addr) (c : Nat) (ls : List (List UInt8)) (w : World) (h : Parts w A ls) (hl : ls.length ≤ 65536) (hf : ls.flatten.length ≤ 281474976710000) :
    Calls Try.prog 29 #[.slice A ls.length c] w fun e w' => e = .returned (.int .u64 (tot true ls.flatten)) ∧ w = w' := by
  go_enter Try.func29, Try.ntmps29
  go_wp2
  go_loop [3, 4, 11] (fun n hi i => ∃ k : Nat, k ≤ ls.length ∧ i = .int .i64 k ∧ n = .int .u64 (tot true (ls.take k).flatten) ∧ hi = .bool (side true (ls.take k).flatten)) (fun _ _ i => ls.length - (intOf i).toNat)
  case atStart => exact ⟨0, Nat.zero_le _, rfl, rfl, rfl⟩
  case round =>
    obtain ⟨k, hk, rfl, rfl, rfl⟩ := hrel
    by_cases hlt : k < ls.length
    · obtain ⟨l, hl1⟩ : ∃ l, ls[k]? = some l := ⟨_, List.getElem?_eq_getElem hlt⟩
      obtain ⟨ad, B, cc, rfl, hc, _, hr⟩ := h k l hl1
      have hft := flatten_take_succ hl1
      have hfl := flatten_take_le ls (k + 1)
      rw [hft, List.length_append] at hfl
      have HL := Lib.hid hl1
      have HF := Lib.hid hft
      clear hl1 hft
      generalize hpre : (ls.take k).flatten = pre at *
      have HP := Lib.hid hpre
      clear hpre
      have hll : l.length ≤ 281474976710656 := by omega
      go_wp2
      go_loop [3, 4, 17] (fun n hi i => ∃ m : Nat, m ≤ l.length ∧ i = .int .i64 m ∧ n = .int .u64 (tot true (pre ++ l.take m)) ∧ hi = .bool (side true (pre ++ l.take m))) (fun _ _ i => l.length - (intOf i).toNat)
      case atStart => exact ⟨0, Nat.zero_le _, rfl, by simp, by simp⟩
      case round =>
        obtain ⟨m, hm, rfl, rfl, rfl⟩ := hrel
        by_cases hlm : m < l.length
        · obtain ⟨bd, rfl, _, hcb⟩ := hr.byte hlm
          have H1 := Lib.hid (take_snoc_ hlm)
          have H2 := Lib.hid (tot_snoc (pre ++ l.take m) l[m])
          have H3 := Lib.hid (side_snoc (pre ++ l.take m) l[m])
          have hbt := tot_le (pre ++ l.take m)
          have hbl : (pre ++ l.take m).length ≤ 281474976710656 := by simp; omega
          have hc8 := l[m].toNat_lt
          generalize tot true (pre ++ l.take m) = T at *
          generalize l[m].toNat = c8 at *
          cases hsd : side true (pre ++ l.take m)
          all_goals
            rw [hsd] at H2 H3
            have HS := Lib.hid hsd
            clear hsd
            go_wp2
            go_round
            case rel => exact ⟨m + 1, by omega, by go_num, by rw [H1.out, ← List.append_assoc, H2.out]; go_num, by rw [H1.out, ← List.append_assoc, H3.out]; rfl⟩
            case measure => simp [intOf]; omega
        · obtain rfl : m = l.length := by omega
          have e : l.take l.length = l := List.take_length
          simp only [e]
          go_wp2
          go_round
          case rel => exact ⟨k + 1, by omega, by go_num, by rw [HF.out], by rw [HF.out]⟩
          case measure => simp [intOf]; omega
    · obtain rfl : k = ls.length := by omega
      go_wp2
      go_ret
      exact ⟨rfl, rfl⟩

theorem total_of (A : Option Addr) (n c : Nat) (ls : List (List UInt8)) (w : World) (h : Parts w A ls) (hn : ls.length = n) (hl : n ≤ 65536) (hf : ls.flatten.length ≤ 281474976710000) :
    Calls Try.prog 29 #[.slice A n c] w fun e w' => e = .returned (.int .u64 (tot true ls.flatten)) ∧ w = w' := by
  subst hn; exact total_any A c ls w h hl hf

/-- The Internet checksum of a string of bytes. -/
def inet (l : List UInt8) : Nat := 65535 - foldN (tot true l)

theorem internet_of (A : Option Addr) (n c : Nat) (ls : List (List UInt8)) (w : World) (h : Parts w A ls) (hn : ls.length = n) (hl : n ≤ 65536) (hf : ls.flatten.length ≤ 281474976710000) :
    Calls Try.prog 13 #[.slice A n c] w fun e w' => e = .returned (.int .u16 (inet ls.flatten)) ∧ w = w' := by
  have ht := tot_le ls.flatten
  have hi : tot true ls.flatten ≤ 9223372036854775807 := by omega
  have hF := foldN_le (tot true ls.flatten)
  have HI : Hid ((inet ls.flatten : Int) = 65535 - (foldN (tot true ls.flatten) : Int)) := Lib.hid (by unfold inet; omega)
  go_enter Try.func13, Try.ntmps13
  go_wp2_with fail
  refine (total_of A n c ls w h hn hl (by omega)).mono ?_
  rintro e w' ⟨rfl, rfl⟩
  go_wp2_with fail
  refine (fold_any _ w hi).mono ?_
  rintro e w' ⟨rfl, rfl⟩
  go_wp2_with fail
  go_ret
  exact ⟨by rw [HI.out]; rfl, rfl⟩

theorem internet_1 {w : World} {g : Nat} {v0 : Value} {l0 : List UInt8} (h0 : w.cell? ⟨g, 0, none⟩ = some v0) (s0 : Sl w v0 l0) (hf : l0.length ≤ 281474976710000) :
    Calls Try.prog 13 #[.slice (some ⟨g, 0, none⟩) 1 1] w fun e w' => e = .returned (.int .u16 (inet l0)) ∧ w = w' := by
  have := internet_of (some ⟨g, 0, none⟩) 1 1 [l0] w (parts_1 h0 s0) rfl (by omega) (by simpa using hf)
  simpa using this
theorem internet_2 {w : World} {g : Nat} {v0 v1 : Value} {l0 l1 : List UInt8} (h0 : w.cell? ⟨g, 0, none⟩ = some v0) (h1 : w.cell? ⟨g, 1, none⟩ = some v1) (s0 : Sl w v0 l0) (s1 : Sl w v1 l1) (hf : (l0 ++ l1).length ≤ 281474976710000) :
    Calls Try.prog 13 #[.slice (some ⟨g, 0, none⟩) 2 2] w fun e w' => e = .returned (.int .u16 (inet (l0 ++ l1))) ∧ w = w' := by
  have := internet_of (some ⟨g, 0, none⟩) 2 2 [l0, l1] w (parts_2 h0 h1 s0 s1) rfl (by omega) (by simpa using hf)
  simpa using this
theorem internet_3 {w : World} {g : Nat} {v0 v1 v2 : Value} {l0 l1 l2 : List UInt8} (h0 : w.cell? ⟨g, 0, none⟩ = some v0) (h1 : w.cell? ⟨g, 1, none⟩ = some v1) (h2 : w.cell? ⟨g, 2, none⟩ = some v2)
    (s0 : Sl w v0 l0) (s1 : Sl w v1 l1) (s2 : Sl w v2 l2) (hf : (l0 ++ (l1 ++ l2)).length ≤ 281474976710000) :
    Calls Try.prog 13 #[.slice (some ⟨g, 0, none⟩) 3 3] w fun e w' => e = .returned (.int .u16 (inet (l0 ++ (l1 ++ l2)))) ∧ w = w' := by
  have := internet_of (some ⟨g, 0, none⟩) 3 3 [l0, l1, l2] w (parts_3 h0 h1 h2 s0 s1 s2) rfl (by omega) (by simpa using hf)
  simpa using this

theorem sum_sl {w : World} {v : Value} {l : List UInt8} (h : Sl w v l) (hf : l.length ≤ 281474976710000) :
    Calls Try.prog 16 #[v] w fun e w' => e = .returned (.int .u16 (foldN (tot true l))) ∧ Below w.heap.size w w' := by
  obtain ⟨A, c, rfl, hc, hr⟩ := h
  have ht := tot_le l
  have hi : tot true l ≤ 9223372036854775807 := by omega
  go_enter Try.func16, Try.ntmps16
  go_wp2_with fail
  refine (total_of _ 1 1 [l] _ (parts_1 (v0 := .slice A l.length c) (by simp [go_sem]) ⟨A, c, rfl, hc, hr.alloc _⟩) rfl (by omega) (by simpa using hf)).mono ?_
  rintro e w' ⟨rfl, rfl⟩
  rw [show [l].flatten = l from by simp]
  go_wp2_with fail
  refine (fold_any _ _ hi).mono ?_
  rintro e w' ⟨rfl, rfl⟩
  go_wp2_with fail
  go_ret
  exact ⟨rfl, (Below.refl _ _).alloc (Nat.le_refl _) _⟩

/-- The updated checksum. -/
def upd (s o n : Nat) : Nat := 65535 - foldN ((65535 - s) + (65535 - o) + n)
theorem update_any (s o n : Nat) (hs : s ≤ 65535) (ho : o ≤ 65535) (hn : n ≤ 65535) (w : World) :
    Calls Try.prog 17 #[.int .u16 s, .int .u16 o, .int .u16 n] w fun e w' => e = .returned (.int .u16 (upd s o n)) ∧ w = w' := by
  have hF := foldN_le ((65535 - s) + (65535 - o) + n)
  have HI : Hid ((upd s o n : Int) = 65535 - (foldN ((65535 - s) + (65535 - o) + n) : Int)) := Lib.hid (by unfold upd; omega)
  go_enter Try.func17, Try.ntmps17
  go_wp2_with fail
  rw [show (65535 - (s : Int) + (65535 - (o : Int)) + (n : Int)) = ((((65535 - s) + (65535 - o) + n : Nat)) : Int) from by omega]
  refine (fold_any _ _ (by omega)).mono ?_
  rintro e w' ⟨rfl, rfl⟩
  go_wp2_with fail
  go_ret
  exact ⟨by rw [HI.out]; rfl, rfl⟩
end Go.Proofs.Ytnfndhgcfhlemaa
