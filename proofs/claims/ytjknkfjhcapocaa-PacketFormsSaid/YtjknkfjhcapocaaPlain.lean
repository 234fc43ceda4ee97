/- Plain facts on folding numbers and on the words of byte strings: no program in sight. -/
namespace Go.Proofs.Ytjknkfjhcapocaa

/-- Folding to 16 bits: 0 stays, all else becomes its remainder modulo 65535 between 1 and 65535. -/
def foldN (n : Nat) : Nat := if n = 0 then 0 else (n - 1) % 65535 + 1

theorem foldN_small {n : Nat} (h : n ≤ 65535) : foldN n = n := by
  unfold foldN; split <;> omega
theorem foldN_le (n : Nat) : foldN n ≤ 65535 := by
  unfold foldN; split <;> omega
theorem foldN_step {n : Nat} (h : 65535 < n) : foldN (n % 65536 + n / 65536) = foldN n := by
  unfold foldN
  rw [if_neg (by omega), if_neg (by omega)]
  omega
theorem foldN_add (a b : Nat) : foldN (foldN a + b) = foldN (a + b) := by
  unfold foldN
  by_cases ha : a = 0
  · simp [ha]
  · rw [if_neg ha, if_neg (by omega), if_neg (by omega)]
    omega

/-- The sum of the words of a byte string; 'hi': does the next byte stand for the high half of a word? -/
def tot : Bool → List UInt8 → Nat
  | _, [] => 0
  | true, c :: l => c.toNat * 256 + tot false l
  | false, c :: l => c.toNat + tot true l

/-- Whether the next byte is a high one behind l. -/
def side (hi : Bool) (l : List UInt8) : Bool := hi ^^ decide (l.length % 2 = 1)

theorem side_cons (hi : Bool) (c : UInt8) (l : List UInt8) : side hi (c :: l) = side (!hi) l := by
  unfold side
  rcases Nat.mod_two_eq_zero_or_one l.length with h | h
  · have : (l.length + 1) % 2 = 1 := by omega
    cases hi <;> simp [h, this]
  · have : (l.length + 1) % 2 = 0 := by omega
    cases hi <;> simp [h, this]

theorem tot_append (l m : List UInt8) : ∀ hi, tot hi (l ++ m) = tot hi l + tot (side hi l) m := by
  induction l with
  | nil => intro hi; simp [tot, side]
  | cons c l ih =>
    intro hi
    rw [side_cons, List.cons_append]
    cases hi <;> simp [tot, ih] <;> omega

theorem tot_le2 (l : List UInt8) : 2 * tot true l ≤ 65535 * l.length + 65025 ∧ 2 * tot false l ≤ 65535 * l.length := by
  induction l with
  | nil => simp [tot]
  | cons c l ih =>
    have := c.toNat_lt
    simp [tot]
    omega
theorem tot_le (l : List UInt8) : tot true l ≤ 32768 * l.length + 32768 := by have := tot_le2 l; omega
theorem tot_snoc (l : List UInt8) (c : UInt8) : tot true (l ++ [c]) = tot true l + if side true l = true then c.toNat * 256 else c.toNat := by
  rw [tot_append]
  cases side true l <;> simp [tot]
theorem side_snoc (l : List UInt8) (c : UInt8) : side true (l ++ [c]) = !side true l := by
  unfold side
  simp only [List.length_append, List.length_cons, List.length_nil]
  rcases Nat.mod_two_eq_zero_or_one l.length with h | h
  · have : (l.length + 1) % 2 = 1 := by omega
    simp [h, this]
  · have : (l.length + 1) % 2 = 0 := by omega
    simp [h, this]
theorem flatten_take_succ {α : Type} {ls : List (List α)} {k : Nat} {l : List α} (h : ls[k]? = some l) : (ls.take (k + 1)).flatten = (ls.take k).flatten ++ l := by
  rw [List.take_add_one, h]; simp
theorem flatten_take_le {α : Type} (ls : List (List α)) (k : Nat) : (ls.take k).flatten.length ≤ ls.flatten.length := by
  have h : ls.flatten = (ls.take k).flatten ++ (ls.drop k).flatten := by rw [← List.flatten_append, List.take_append_drop]
  rw [h]; simp
theorem take_snoc_ {α : Type} {l : List α} {k : Nat} (h : k < l.length) : l.take (k + 1) = l.take k ++ [l[k]] := List.take_succ_eq_append_getElem h

theorem side_even {l : List UInt8} (h : l.length % 2 = 0) : side true l = true := by simp [side, h]
/-- Data of an even number of bytes with its checksum behind it. -/
theorem fold_zero {l : List UInt8} (h : l.length % 2 = 0) (hi lo : UInt8) (hc : hi.toNat * 256 + lo.toNat = 65535 - foldN (tot true l)) : foldN (tot true (l ++ [hi, lo])) = 65535 := by
  rw [tot_append, side_even h]
  have hF := foldN_le (tot true l)
  have e : tot true [hi, lo] = 65535 - foldN (tot true l) := by simp [tot]; omega
  rw [e, ← foldN_add]
  exact foldN_small (n := foldN (tot true l) + (65535 - foldN (tot true l))) (by omega) |>.trans (by omega)

end Go.Proofs.Ytjknkfjhcapocaa
