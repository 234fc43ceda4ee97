/- Plain facts on the sum of the words of a byte string of which bytes are changed. -/
import Derived.Test.YtnfndhgcfhlemaaPlain
namespace Go.Proofs.Ytnfndhgcfhlemaa

/-- The weight of the byte at j. -/
def wt (hi : Bool) (j : Nat) : Nat := if (hi ^^ decide (j % 2 = 1)) = true then 256 else 1
theorem wt_succ (hi : Bool) (j : Nat) : wt hi (j + 1) = wt (!hi) j := by
  unfold wt
  rcases Nat.mod_two_eq_zero_or_one j with h | h
  · have : (j + 1) % 2 = 1 := by omega
    cases hi <;> simp [h, this]
  · have : (j + 1) % 2 = 0 := by omega
    cases hi <;> simp [h, this]
theorem tot_set (l : List UInt8) : ∀ (hi : Bool) (j : Nat) (y : UInt8) (h : j < l.length), tot hi (l.set j y) + wt hi j * l[j].toNat = tot hi l + wt hi j * y.toNat := by
  induction l with
  | nil => intro hi j y h; simp at h
  | cons c l ih =>
    intro hi j y h
    cases j with
    | zero => cases hi <;> simp [tot, wt] <;> omega
    | succ j =>
      have h' : j < l.length := by simpa using h
      have := ih (!hi) j y h'
      rw [wt_succ]
      cases hi <;> simp [tot] at this ⊢ <;> omega
/-- Exchanging two bytes of one weight. -/
theorem tot_swap {l : List UInt8} {i k : Nat} (hi : i < l.length) (hk : k < l.length) (hw : wt true i = wt true k) : tot true ((l.set i l[k]).set k l[i]) = tot true l := by
  have h1 := tot_set l true i l[k] hi
  have h2 := tot_set (l.set i l[k]) true k l[i] (by simpa using hk)
  rw [hw] at h1
  by_cases e : i = k
  · subst e
    simp at h1 h2 ⊢
  · rw [List.getElem_set_ne e] at h2
    omega
theorem wt_even {i : Nat} (h : i % 2 = 0) : wt true i = 256 := by simp [wt, h]
theorem wt_odd {i : Nat} (h : i % 2 = 1) : wt true i = 1 := by simp [wt, h]
/-- Exchanging two words. -/
theorem tot_swap2 {l : List UInt8} {i k : Nat} (hi : i + 1 < l.length) (hk : k + 1 < l.length) (ei : i % 2 = 0) (ek : k % 2 = 0) {m : List UInt8} (hm : m = (l.set i l[k]).set k l[i]) (hml : m.length = l.length) :
    tot true ((m.set (i + 1) m[k + 1]).set (k + 1) m[i + 1]) = tot true l := by
  rw [tot_swap (by omega) (by omega) (by rw [wt_odd (by omega), wt_odd (by omega)]), hm, tot_swap (by omega) (by omega) (by rw [wt_even ei, wt_even ek])]

theorem tot_zero (l : List UInt8) : ∀ hi, tot hi l = 0 → ∀ c ∈ l, c = 0 := by
  induction l with
  | nil => intro hi _ c hc; simp at hc
  | cons b l ih =>
    intro hi h c hc
    cases hi <;> simp [tot] at h
    · rcases List.mem_cons.1 hc with rfl | hc
      · exact UInt8.toNat_inj.1 (by have := h.1; show c.toNat = 0; omega)
      · exact ih _ h.2 c hc
    · rcases List.mem_cons.1 hc with rfl | hc
      · exact UInt8.toNat_inj.1 (by have := h.1; show c.toNat = 0; omega)
      · exact ih _ h.2 c hc

/-- The updated checksum is right unless all is 0. -/
theorem upd_right {T old new : Nat} (ho : old ≤ 65535) (hn : new ≤ 65535) (hT : old ≤ T) (c : Nat) (hc : c = 65535 - foldN ((65535 - (65535 - foldN T)) + (65535 - old) + new)) (h0 : T - old + new + c ≠ 0) :
    foldN (T - old + new + c) = 65535 := by
  have hF := foldN_le T
  subst hc
  unfold foldN at *
  split at h0 <;> split at h0 <;> repeat' split
  all_goals omega
end Go.Proofs.Ytnfndhgcfhlemaa
