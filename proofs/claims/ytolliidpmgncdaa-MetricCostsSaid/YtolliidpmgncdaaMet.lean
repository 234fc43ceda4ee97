/- The plain functions of package metric. -/
namespace Go.Proofs.Ytolliidpmgncdaa

structure Opt where
  n : Int
  c : Int
structure Cho where
  n : Int
  c : Int
  b : Int

def validC (c : Int) : Bool := decide (0 ≤ c ∧ c ≤ 65535)
def isTimeB (t : Int) : Bool := decide (0 ≤ t ∧ t ≤ 1099511627776)
def addC (a b : Int) : Int := if validC a = true ∧ validC b = true then min (a + b) 65535 else 65535
def linkC (r t : Int) : Int := if validC r = true ∧ validC t = true ∧ r ≠ 65535 ∧ t ≠ 65535 then max t 1 else 65535
def smoothC (o s : Int) : Int :=
  if validC o = true ∧ validC s = true then
    if o = 65535 ∨ s = 65535 then s else if o ≤ s then o + (s - o + 3) / 4 else o - (o - s + 3) / 4
  else 65535
def validCho (x : Cho) : Bool := validC x.c && (x.b == -1 || isTimeB x.b)
/-- The options behind one with the neighbour p (or none). -/
def validFrom : Option Int → List Opt → Bool
  | _, [] => true
  | p, o :: l => (o.n != 0) && validC o.c && (match p with | none => true | some q => decide (q < o.n)) && validFrom (some o.n) l
def validOpts (l : List Opt) : Bool := decide (l.length ≤ 16) && validFrom none l

def noOpt : Opt := ⟨0, 65535⟩
def bestStep (b o : Opt) : Opt := if o.c < b.c then o else b
def curStep (n : Int) (k o : Opt) : Opt := if o.c < 65535 ∧ o.n = n then o else k
def best (l : List Opt) : Opt := l.foldl bestStep noOpt
def cur (n : Int) (l : List Opt) : Opt := l.foldl (curStep n) noOpt
def takeO (o : Opt) (b : Int) : Cho := ⟨o.n, o.c, b⟩
def chosen (now : Int) (old : Cho) (b k : Opt) : Cho :=
  if k.n = 0 ∧ k.c = 65535 then takeO b (-1)
  else if b.c = k.c then takeO k (-1)
  else if 256 ≤ k.c - b.c then takeO b (-1)
  else if old.b = -1 then takeO k now
  else if old.b + 6 ≤ now then takeO b (-1)
  else takeO k old.b
def choose (now : Int) (old : Cho) (l : List Opt) : Cho × Int :=
  if validCho old = true ∧ validOpts l = true then
    if isTimeB now = true then (chosen now old (best l) (cur old.n l), 0) else (⟨0, 0, 0⟩, 2)
  else (⟨0, 0, 0⟩, 1)

theorem validC_iff {c : Int} : validC c = true ↔ 0 ≤ c ∧ c ≤ 65535 := by simp [validC]
theorem isTimeB_iff {c : Int} : isTimeB c = true ↔ 0 ≤ c ∧ c ≤ 1099511627776 := by simp [isTimeB]

def lastN (p : Option Int) (l : List Opt) : Option Int := match l.getLast? with | none => p | some o => some o.n
theorem validFrom_append (l m : List Opt) : ∀ p, validFrom p (l ++ m) = (validFrom p l && validFrom (lastN p l) m) := by
  induction l with
  | nil => intro p; simp [validFrom, lastN]
  | cons o l ih =>
    intro p
    have e : lastN p (o :: l) = lastN (some o.n) l := by
      unfold lastN
      cases l with
      | nil => simp
      | cons a r =>
        rw [List.getLast?_cons_cons]
        cases h : (a :: r).getLast? with
        | none => simp at h
        | some z => rfl
    rw [e, List.cons_append]
    simp only [validFrom, ih, Bool.and_assoc]
/-- What is asked of the option at k. -/
def okAt (l : List Opt) (k : Nat) (x : Opt) : Bool := (x.n != 0) && validC x.c && (match lastN none (l.take k) with | none => true | some q => decide (q < x.n))
theorem validFrom_succ {l : List Opt} {k : Nat} (hk : k < l.length) : validFrom none (l.take (k + 1)) = (validFrom none (l.take k) && okAt l k l[k]) := by
  rw [List.take_succ_eq_append_getElem hk, validFrom_append]
  simp [validFrom, okAt]
theorem validOpts_bad {l : List Opt} {k : Nat} (hk : k < l.length) (h : okAt l k l[k] = false) : validOpts l = false := by
  have e : validFrom none l = false := by
    conv => lhs; rw [← List.take_append_drop (k + 1) l]
    rw [validFrom_append, validFrom_succ hk, h]
    simp
  unfold validOpts
  rw [e]; simp
theorem lastN_zero (l : List Opt) : lastN none (l.take 0) = none := rfl
theorem lastN_pos {l : List Opt} {k : Nat} (h0 : 0 < k) (hk : k < l.length) : lastN none (l.take k) = some (l[k - 1]'(by omega)).n := by
  unfold lastN
  obtain ⟨j, rfl⟩ : ∃ j, k = j + 1 := ⟨k - 1, by omega⟩
  rw [List.take_succ_eq_append_getElem (by omega), List.getLast?_append]
  simp
theorem validFrom_mem {l : List Opt} : ∀ {p}, validFrom p l = true → ∀ o ∈ l, o.n ≠ 0 ∧ validC o.c = true := by
  induction l with
  | nil => intro p _ o ho; simp at ho
  | cons x l ih =>
    intro p h o ho
    simp only [validFrom, Bool.and_eq_true] at h
    rcases List.mem_cons.1 ho with rfl | ho
    · exact ⟨by simpa using h.1.1.1, h.1.1.2⟩
    · exact ih h.2 o ho
theorem cur_mem (n : Int) (l : List Opt) : ∀ a, l.foldl (curStep n) a = a ∨ (l.foldl (curStep n) a ∈ l ∧ (l.foldl (curStep n) a).n = n ∧ (l.foldl (curStep n) a).c < 65535) := by
  induction l with
  | nil => intro a; exact .inl rfl
  | cons x l ih =>
    intro a
    rw [List.foldl_cons]
    rcases ih (curStep n a x) with h | ⟨h1, h2⟩
    · rw [h]
      unfold curStep
      split
      · rename_i hc
        exact .inr ⟨List.mem_cons_self .., hc.2, hc.1⟩
      · exact .inl rfl
    · exact .inr ⟨List.mem_cons_of_mem _ h1, h2⟩
theorem cur_zero (n : Int) {l : List Opt} (hv : validOpts l = true) : (cur n l).n = 0 → (cur n l).c = 65535 := by
  intro h0
  have hf : validFrom none l = true := by
    unfold validOpts at hv
    simp only [Bool.and_eq_true] at hv
    exact hv.2
  unfold cur at *
  rcases cur_mem n l noOpt with h | ⟨h1, _⟩
  · rw [h]; rfl
  · exact absurd h0 (validFrom_mem hf _ h1).1
theorem best_mem (l : List Opt) : ∀ a, l.foldl bestStep a = a ∨ l.foldl bestStep a ∈ l := by
  induction l with
  | nil => intro a; exact .inl rfl
  | cons x l ih =>
    intro a
    rw [List.foldl_cons]
    rcases ih (bestStep a x) with h | h
    · rw [h]
      unfold bestStep
      split
      · exact .inr (List.mem_cons_self ..)
      · exact .inl rfl
    · exact .inr (List.mem_cons_of_mem _ h)
theorem validOpts_from {l : List Opt} (hv : validOpts l = true) : validFrom none l = true := by
  unfold validOpts at hv
  simp only [Bool.and_eq_true] at hv
  exact hv.2
theorem best_ok {l : List Opt} (hv : validOpts l = true) : 0 ≤ (best l).c ∧ (best l).c ≤ 65535 := by
  unfold best
  rcases best_mem l noOpt with h | h
  · rw [h]; decide
  · exact validC_iff.1 (validFrom_mem (validOpts_from hv) _ h).2
theorem cur_ok (n : Int) {l : List Opt} (hv : validOpts l = true) : 0 ≤ (cur n l).c ∧ (cur n l).c ≤ 65535 := by
  unfold cur
  rcases cur_mem n l noOpt with h | ⟨h, _⟩
  · rw [h]; decide
  · exact validC_iff.1 (validFrom_mem (validOpts_from hv) _ h).2
theorem validCho_b {x : Cho} (h : validCho x = true) : -1 ≤ x.b ∧ x.b ≤ 1099511627776 := by
  unfold validCho at h
  simp only [Bool.and_eq_true, Bool.or_eq_true, beq_iff_eq, isTimeB_iff] at h
  omega
end Go.Proofs.Ytolliidpmgncdaa
