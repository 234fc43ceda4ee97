/- TrickleCovers, by AX: the law returns true. Printed by wip/gen/covers.py. -/
import Derived.Test.YtolliidpmgncdaaTrkLaw
import Derived.Test.YtolliidpmgncdaaTrkLem
namespace Go.Proofs.Ytolliidpmgncdaa.AX
set_option linter.unusedVariables false
set_option linter.unusedSimpArgs false
/-- A node's timer in the interval that begins at n, of length m. -/
def covT (n m F h : Int) (b : Bool) : Trk := ⟨m, 3, 1, n, m, F, h, b⟩
def upd (L : Nat → Trk) (i : Nat) (z : Trk) (k : Nat) : Trk := bif Nat.beq k i then z else L k
def updS (L : Nat → Bool) (i : Nat) (z : Bool) (k : Nat) : Bool := bif Nat.beq k i then z else L k
theorem upd_eq {L : Nat → Trk} {i : Nat} {z : Trk} : upd L i z i = z := by simp [upd]
theorem upd_ne {L : Nat → Trk} {i k : Nat} {z : Trk} (h : k ≠ i) : upd L i z k = L k := by
  have : Nat.beq k i = false := by cases hb : Nat.beq k i with
    | false => rfl
    | true => exact absurd (Nat.eq_of_beq_eq_true hb) h
  simp [upd, this]
theorem updS_eq {L : Nat → Bool} {i : Nat} {z : Bool} : updS L i z i = z := by simp [updS]
theorem updS_ne {L : Nat → Bool} {i k : Nat} {z : Bool} (h : k ≠ i) : updS L i z k = L k := by
  have : Nat.beq k i = false := by cases hb : Nat.beq k i with
    | false => rfl
    | true => exact absurd (Nat.eq_of_beq_eq_true hb) h
  simp [updS, this]
def cellsL (L : Nat → Trk) (c : Nat) : CV := nth (cTrkL (L (c / 8))) (c % 8)
theorem agg5 (d : Nat → Int) : LeF 0 (.e (.agg 5 (fun c => .int .u32 (d c)))) (.e (.agg 5 (fun c => .int .u32 (d c)))) := leF_e (leE_all (by repeat' (first | exact trivial | exact rfl | exact leC_slI (by assumption) | refine leF_int ?_ | refine leF_bool ?_ | exact leF_ptr rfl | refine leN_all ?_ | refine leC_int ?_ | refine leC_bool ?_ | apply And.intro)))
theorem trk_cell (x : Trk) (nx j : Nat) (hj : j < 8) : LeC nx (nth (cTrkL x) j) (nth (cTrkL x) j) := by
  rcases (show j = 0 ∨ j = 1 ∨ j = 2 ∨ j = 3 ∨ j = 4 ∨ j = 5 ∨ j = 6 ∨ j = 7 by omega) with rfl | rfl | rfl | rfl | rfl | rfl | rfl | rfl
  all_goals first | exact leC_int rfl | exact leC_bool rfl
theorem leN_cells {nx : Nat} {t : TypeId} {L : Nat → Trk} : LeN nx ⟨t, 40, cellsL L⟩ ⟨t, 40, cellsL L⟩ := ⟨rfl, rfl, fun c _ => trk_cell _ _ _ (Nat.mod_lt _ (by omega))⟩
theorem leN_upd {nx : Nat} {t : TypeId} {L : Nat → Trk} {off : Nat} {g : Nat → CV} {i : Nat} {z : Trk} (ho : off = i * 8) (hg : allLt 8 fun j => g j = nth (cTrkL z) j) : LeN nx ⟨t, 40, ovr (cellsL L) off 8 g⟩ ⟨t, 40, cellsL (upd L i z)⟩ := by
  refine ⟨rfl, rfl, fun c _ => ?_⟩
  show LeC nx (ovr (cellsL L) off 8 g c) (cellsL (upd L i z) c)
  subst ho
  unfold ovr cellsL
  by_cases h : i * 8 ≤ c ∧ c < i * 8 + 8
  · have h1 : (Nat.ble (i * 8) c && Nat.blt c (i * 8 + 8)) = true := by
      rw [Nat.ble_eq_true_of_le h.1, show Nat.blt c (i * 8 + 8) = true from Nat.ble_eq_true_of_le h.2]; rfl
    rw [h1, show c / 8 = i by omega, upd_eq, show c % 8 = c - i * 8 by omega, cond_true, allLt_at hg _ (by omega)]
    exact trk_cell _ _ _ (by omega)
  · have h1 : (Nat.ble (i * 8) c && Nat.blt c (i * 8 + 8)) = false := by
      cases hb : Nat.ble (i * 8) c with
      | false => rfl
      | true =>
        cases hb2 : Nat.blt c (i * 8 + 8) with
        | false => rfl
        | true =>
          have e1 : i * 8 ≤ c := Nat.le_of_ble_eq_true hb
          have e2 : c < i * 8 + 8 := Nat.le_of_ble_eq_true hb2
          exact absurd ⟨e1, e2⟩ h
    rw [h1, cond_false, upd_ne (by omega)]
    exact trk_cell _ _ _ (Nat.mod_lt _ (by omega))
abbrev NM (n m : Int) : Prop := (0 ≤ n ∧ n < 1048576) ∧ 2 ≤ m ∧ m ≤ 61
theorem fire_range {n m d : Int} (h : NM n m) : n + m / 2 ≤ n + m / 2 + d % (m - m / 2) ∧ n + m / 2 + d % (m - m / 2) ≤ n + m - 1 := by
  obtain ⟨h1, h2⟩ := h
  have := Int.emod_nonneg d (show m - m / 2 ≠ 0 by omega)
  have := Int.emod_lt_of_pos d (show 0 < m - m / 2 by omega)
  omega
theorem cov_new {n m d : Int} {z : Trk × Int} (h : NM n m) (hz : z = newT m 3 1 n d) : z.2 = 0 ∧ z.1 = covT n m (n + m / 2 + d % (m - m / 2)) 0 false := by
  obtain ⟨h1, h2⟩ := h
  rw [hz]
  unfold newT
  rw [if_pos ⟨isTimeT_iff.2 (by omega), numbersB_iff.2 (by omega)⟩]
  exact ⟨rfl, rfl⟩
theorem cov_valid {n m F h : Int} {b : Bool} (hnm : NM n m) (hF : n + m / 2 ≤ F ∧ F ≤ n + m - 1) (hh : 0 ≤ h ∧ h ≤ 1048576) : validT (covT n m F h b) = true := by
  obtain ⟨h1, h2⟩ := hnm
  exact validT_mk (numbersB_iff.2 (by simp only [covT]; omega)) (isTimeT_iff.2 (by simp only [covT]; omega)) hh (fitsTo_iff.2 ⟨0, by simp, by simp [covT]⟩) hF
theorem cov_step {n m F h t : Int} {b : Bool} (hnm : NM n m) (hF : n + m / 2 ≤ F ∧ F ≤ n + m - 1) (hh : 0 ≤ h ∧ h ≤ 1048576) (ht : n ≤ t ∧ t < n + m) :
    stepT (covT n m F h b) t 0 = (covT n m F h (b || decide (F ≤ t)), (!b && decide (F ≤ t)) && decide (h < 1), 0) := by
  have hv := cov_valid (b := b) hnm hF hh
  obtain ⟨h1, h2⟩ := hnm
  unfold stepT
  rw [if_pos hv, if_pos ⟨isTimeT_iff.2 (by omega), by simp only [covT]; omega⟩, if_neg (by simp only [covT]; omega)]
  unfold fireT
  cases b with
  | true => simp [covT]
  | false =>
    by_cases hc : F ≤ t
    · simp [covT, hc]
    · simp [covT, hc]
theorem cov_hear {n m F h : Int} {b : Bool} (hnm : NM n m) (hF : n + m / 2 ≤ F ∧ F ≤ n + m - 1) (hh : 0 ≤ h ∧ h ≤ 1048576) :
    ∃ h', hearT (covT n m F h b) = covT n m F h' b ∧ 1 ≤ h' ∧ h ≤ h' ∧ h' ≤ 1048576 := by
  unfold hearT
  rw [if_pos (cov_valid hnm hF hh)]
  by_cases hc : h < 1048576
  · exact ⟨h + 1, by rw [if_pos (show (covT n m F h b).heard < 1048576 from hc)]; rfl, by omega⟩
  · exact ⟨h, by rw [if_neg (show ¬ (covT n m F h b).heard < 1048576 from hc)], by omega⟩
structure Pp (f0 t : Int) (F : Nat → Int) (k : Nat) (h : Int) (b : Bool) : Prop where
  bd : 0 ≤ h ∧ h ≤ 1048576
  pre : t ≤ f0 → h = 0 ∧ b = false
  post : f0 < t → (F k = f0 → b = true) ∧ (F k ≠ f0 → 1 ≤ h)
structure Rr (f0 t : Int) (F : Nat → Int) (k j : Nat) (h : Int) (b : Bool) : Prop where
  bd : 0 ≤ h ∧ h ≤ 1048576
  pre : t < f0 → h = 0 ∧ b = false
  at' : t = f0 → (F k = f0 → b = true) ∧ ∀ j', j' < j → j' ≠ k → F j' = f0 → 1 ≤ h
  post : f0 < t → (F k = f0 → b = true) ∧ (F k ≠ f0 → 1 ≤ h)
theorem p_step {n m f0 t h : Int} {F : Nat → Int} {k : Nat} {b : Bool} {z : Trk × Bool × Int} (hP : Pp f0 t F k h b) (hge : f0 ≤ F k) (hF : n + m / 2 ≤ F k ∧ F k ≤ n + m - 1) (hnm : NM n m) (ht : n ≤ t ∧ t < n + m) (hz : z = stepT (covT n m (F k) h b) t 0) :
    z.2.2 = 0 ∧ z.2.1 = decide (t = f0 ∧ F k = f0) ∧ ∃ h b, z.1 = covT n m (F k) h b ∧ Rr f0 t F k 0 h b := by
  obtain ⟨hb, hp, hq⟩ := hP
  rw [cov_step hnm hF hb ht] at hz
  subst hz
  refine ⟨rfl, ?_, h, _, rfl, ⟨hb, ?_, ?_, ?_⟩⟩
  · show ((!b && decide (F k ≤ t)) && decide (h < 1)) = _
    by_cases h1 : t ≤ f0
    · obtain ⟨rfl, rfl⟩ := hp h1
      by_cases h2 : F k ≤ t
      · have : t = f0 := by omega
        have : F k = f0 := by omega
        simp [*]
      · have : ¬ (t = f0 ∧ F k = f0) := by omega
        simp [h2, this]
    · obtain ⟨g1, g2⟩ := hq (by omega)
      have hno : ¬ (t = f0 ∧ F k = f0) := by omega
      rw [decide_eq_false hno]
      by_cases h2 : F k = f0
      · simp [g1 h2]
      · have := g2 h2
        rw [decide_eq_false (show ¬ h < 1 by omega)]
        simp
  · intro h1
    obtain ⟨rfl, rfl⟩ := hp (by omega)
    have : ¬ F k ≤ t := by omega
    simp [this]
  · intro h1
    refine ⟨fun h2 => ?_, fun j' hj => by omega⟩
    have : F k ≤ t := by omega
    simp [this]
  · intro h1
    obtain ⟨g1, g2⟩ := hq h1
    exact ⟨fun h2 => by rw [g1 h2]; rfl, g2⟩
theorem ne_ref {a : Bool} {t f0 F0 G : Int} (e2 : a = decide (t = f0 ∧ F0 = f0)) (hF : G = F0) (ht : t = f0) (hc : (a != (G == f0)) = true) : False := by
  subst hF e2 ht
  by_cases h : G = t <;> simp [h] at hc
structure S1 (n m : Int) (F : Nat → Int) where
  i : Nat
  L : Nat → Trk
  fst : Int
  hi : i ≤ 5
  hL : ∀ k, k < i → L k = covT n m (F k) 0 false
  hge : ∀ k, k < i → fst ≤ F k
  hex : (i = 0 ∧ fst = 1099511627776) ∨ ∃ k, k < i ∧ fst = F k
structure S2 (n m f0 : Int) (F : Nat → Int) where
  t : Int
  L : Nat → Trk
  ht : n ≤ t ∧ t ≤ n + m
  hL : ∀ k, k < 5 → ∃ h b, L k = covT n m (F k) h b ∧ Pp f0 t F k h b
structure S3 (n m f0 t : Int) (F : Nat → Int) where
  i : Nat
  L : Nat → Trk
  s : Nat → Bool
  hi : i ≤ 5
  hLa : ∀ k, k < i → (∃ h b, L k = covT n m (F k) h b ∧ Rr f0 t F k 0 h b) ∧ s k = decide (t = f0 ∧ F k = f0)
  hLb : ∀ k, i ≤ k → k < 5 → ∃ h b, L k = covT n m (F k) h b ∧ Pp f0 t F k h b
structure S4 (n m f0 t : Int) (F : Nat → Int) where
  i : Nat
  L : Nat → Trk
  hi : i ≤ 5
  hL : ∀ k, k < 5 → ∃ h b, L k = covT n m (F k) h b ∧ Rr f0 t F k (if k < i then 5 else 0) h b
structure S5 (n m f0 t : Int) (F : Nat → Int) (i : Nat) where
  j : Nat
  L : Nat → Trk
  hj : j ≤ 5
  hL : ∀ k, k < 5 → ∃ h b, L k = covT n m (F k) h b ∧ Rr f0 t F k (if k < i then 5 else if k = i then j else 0) h b
section
variable {n m f0 t : Int} {F : Nat → Int} {L : Nat → Trk} {i j : Nat}
theorem s1_a {z : Trk} (h : ∀ k, k < i → L k = covT n m (F k) 0 false) (hz : z = covT n m (F i) 0 false) : ∀ k, k < i + 1 → upd L i z k = covT n m (F k) 0 false := by
  intro k hk
  by_cases e : k = i
  · subst e; rw [upd_eq]; exact hz
  · rw [upd_ne e]; exact h k (by omega)
theorem s1_lt (h : ∀ k, k < i → f0 ≤ F k) (hl : F i < f0) : ∀ k, k < i + 1 → F i ≤ F k := by
  intro k hk
  by_cases e : k = i
  · subst e; omega
  · have := h k (by omega); omega
theorem s1_ge (h : ∀ k, k < i → f0 ≤ F k) (hl : f0 ≤ F i) : ∀ k, k < i + 1 → f0 ≤ F k := by
  intro k hk
  by_cases e : k = i
  · subst e; omega
  · exact h k (by omega)
theorem s1_ex (h : (i = 0 ∧ f0 = 1099511627776) ∨ ∃ k, k < i ∧ f0 = F k) (hl : f0 ≠ 1099511627776 ∨ i ≠ 0) : (i + 1 = 0 ∧ f0 = 1099511627776) ∨ ∃ k, k < i + 1 ∧ f0 = F k := by
  rcases h with ⟨h1, h2⟩ | ⟨k, hk, e⟩
  · omega
  · exact .inr ⟨k, by omega, e⟩
theorem s2_init (h : ∀ k, k < 5 → L k = covT n m (F k) 0 false) (hn : n ≤ f0) : ∀ k, k < 5 → ∃ h b, L k = covT n m (F k) h b ∧ Pp f0 n F k h b :=
  fun k hk => ⟨0, false, h k hk, ⟨by omega, fun _ => ⟨rfl, rfl⟩, fun h => by omega⟩⟩
theorem s3_a {s : Nat → Bool} {z : Trk} {b' : Bool} (h : ∀ k, k < i → (∃ h b, L k = covT n m (F k) h b ∧ Rr f0 t F k 0 h b) ∧ s k = decide (t = f0 ∧ F k = f0)) (hb : b' = decide (t = f0 ∧ F i = f0)) (hz : ∃ h b, z = covT n m (F i) h b ∧ Rr f0 t F i 0 h b) :
    ∀ k, k < i + 1 → (∃ h b, upd L i z k = covT n m (F k) h b ∧ Rr f0 t F k 0 h b) ∧ updS s i b' k = decide (t = f0 ∧ F k = f0) := by
  intro k hk
  by_cases e : k = i
  · subst e; rw [upd_eq, updS_eq]; exact ⟨hz, hb⟩
  · rw [upd_ne e, updS_ne e]; exact h k (by omega)
theorem s3_b {z : Trk} (h : ∀ k, i ≤ k → k < 5 → ∃ h b, L k = covT n m (F k) h b ∧ Pp f0 t F k h b) : ∀ k, i + 1 ≤ k → k < 5 → ∃ h b, upd L i z k = covT n m (F k) h b ∧ Pp f0 t F k h b := by
  intro k hk hk'
  rw [upd_ne (by omega)]; exact h k (by omega) hk'
theorem s4_init (h : ∀ k, k < 5 → ∃ h b, L k = covT n m (F k) h b ∧ Rr f0 t F k 0 h b) : ∀ k, k < 5 → ∃ h b, L k = covT n m (F k) h b ∧ Rr f0 t F k (if k < 0 then 5 else 0) h b := by
  intro k hk
  rw [if_neg (by omega)]; exact h k hk
theorem s5_init (h : ∀ k, k < 5 → ∃ h b, L k = covT n m (F k) h b ∧ Rr f0 t F k (if k < i then 5 else 0) h b) : ∀ k, k < 5 → ∃ h b, L k = covT n m (F k) h b ∧ Rr f0 t F k (if k < i then 5 else if k = i then 0 else 0) h b := by
  intro k hk
  have := h k hk
  rwa [show (if k = i then 0 else 0) = 0 by split <;> rfl]
theorem r5_end (h : ∀ k, k < 5 → ∃ h b, L k = covT n m (F k) h b ∧ Rr f0 t F k (if k < i then 5 else if k = i then 5 else 0) h b) : ∀ k, k < 5 → ∃ h b, L k = covT n m (F k) h b ∧ Rr f0 t F k (if k < i + 1 then 5 else 0) h b := by
  intro k hk
  have := h k hk
  rwa [show (if k < i + 1 then 5 else 0) = if k < i then 5 else if k = i then 5 else 0 by split <;> split <;> (try split) <;> omega]
theorem r5_same (h : ∀ k, k < 5 → ∃ h b, L k = covT n m (F k) h b ∧ Rr f0 t F k (if k < i then 5 else if k = i then j else 0) h b) (hn : j ≠ i → ¬ (t = f0 ∧ F j = f0)) : ∀ k, k < 5 → ∃ h b, L k = covT n m (F k) h b ∧ Rr f0 t F k (if k < i then 5 else if k = i then j + 1 else 0) h b := by
  intro k hk
  obtain ⟨h', b, e, r⟩ := h k hk
  refine ⟨h', b, e, ?_⟩
  by_cases c : k = i
  · subst c
    simp only [Nat.lt_irrefl, if_false, if_true] at r ⊢
    obtain ⟨r1, r2, r3, r4⟩ := r
    refine ⟨r1, r2, fun ht => ⟨(r3 ht).1, fun j' hj' hne hF => ?_⟩, r4⟩
    by_cases e' : j' = j
    · subst e'; exact absurd ⟨ht, hF⟩ (hn hne)
    · exact (r3 ht).2 j' (by omega) hne hF
  · simpa [c] using r
theorem r5_hear {z : Trk} (h : ∀ k, k < 5 → ∃ h b, L k = covT n m (F k) h b ∧ Rr f0 t F k (if k < i then 5 else if k = i then j else 0) h b) (hi : i < 5) (hnm : NM n m) (hFr : n + m / 2 ≤ F i ∧ F i ≤ n + m - 1) (hz : z = hearT (L i)) (ht : t = f0) :
    ∀ k, k < 5 → ∃ h b, upd L i z k = covT n m (F k) h b ∧ Rr f0 t F k (if k < i then 5 else if k = i then j + 1 else 0) h b := by
  intro k hk
  by_cases c : k = i
  · subst c
    obtain ⟨h', b, e, r⟩ := h k hk
    obtain ⟨r1, r2, r3, r4⟩ := r
    rw [e] at hz
    obtain ⟨h2, e2, g1, g2, g3⟩ := cov_hear (b := b) hnm hFr r1
    rw [upd_eq]
    refine ⟨h2, b, hz.trans e2, ⟨by omega, fun h => by omega, fun _ => ⟨(r3 ht).1, fun _ _ _ _ => g1⟩, fun h => by omega⟩⟩
  · obtain ⟨h', b, e, r⟩ := h k hk
    rw [upd_ne c]
    exact ⟨h', b, e, by simpa [c] using r⟩
theorem s4_end (h : ∀ k, k < 5 → ∃ h b, L k = covT n m (F k) h b ∧ Rr f0 t F k (if k < 5 then 5 else 0) h b) (hex : ∃ k, k < 5 ∧ F k = f0) : ∀ k, k < 5 → ∃ h b, L k = covT n m (F k) h b ∧ Pp f0 (t + 1) F k h b := by
  intro k hk
  obtain ⟨h', b, e, r⟩ := h k hk
  rw [if_pos hk] at r
  obtain ⟨r1, r2, r3, r4⟩ := r
  obtain ⟨q, hq, eq⟩ := hex
  refine ⟨h', b, e, ⟨r1, fun h => r2 (by omega), fun h => ?_⟩⟩
  by_cases ht : t = f0
  · refine ⟨(r3 ht).1, fun hne => (r3 ht).2 q hq (fun e => ?_) eq⟩
    subst e; exact hne eq
  · exact r4 (by omega)
end

set_option maxHeartbeats 40000000 in
theorem covers_ok (d : Nat → Int) (now min : Int) (hd : ∀ k, k < 5 → 0 ≤ d k ∧ d k < 4294967296) :
    PureOk Try.prog 4 [.e (.agg 5 (fun c => .int .u32 (d c))), (cI .i64).enc now, (cI .i64).enc min] (.e (.c (.bool true))) := by
  refine pure_intro (C := mkC L4) (Q := mkQ L4) tysOk (callsOk_of L4_ok) (local_of L4_ok) (q_of L4_ok) mixed Try.func4 rfl _ (by show 3 ≤ _; decide) _ (by intro x hx; first | (cases hx; done) | (simp only [List.mem_cons, List.not_mem_nil, or_false] at hx; rcases hx with rfl | rfl | rfl <;> first | exact leF_int rfl | exact agg5 d)) ?_
  repeat' (first | (apply And.intro <;> intro hc <;> (first | exact Bool.noConfusion hc | (simp only [decide_eq_true_eq, decide_eq_false_iff_not, Bool.not_eq_true', Bool.not_eq_false', beq_iff_eq, beq_eq_false_iff_ne, bne_iff_ne, bne_eq_false_iff_eq, Bool.true_eq_false, Bool.false_eq_true] at hc) | skip)) | (refine And.intro (by first | decide | omega | (dsimp only; omega) | exact ⟨by assumption, by omega, by omega⟩ | exact u32r _) ?_) | (apply And.intro))
  have hn : 0 ≤ modV now 1048576 ∧ modV now 1048576 < 1048576 := modV_lt (by omega)
  have hm0 : 0 ≤ modV min 60 ∧ modV min 60 < 60 := modV_lt (by omega)
  have hw : IntKind.i64.wrap (2 + modV min 60) = 2 + modV min 60 := IntWalk.i64_in _ (by omega)
  obtain ⟨n, hn1⟩ : ∃ n, modV now 1048576 = n := ⟨_, rfl⟩
  obtain ⟨m, hm1⟩ : ∃ m, IntKind.i64.wrap (2 + modV min 60) = m := ⟨_, rfl⟩
  have hnm : (0 ≤ n ∧ n < 1048576) ∧ 2 ≤ m ∧ m ≤ 61 := by omega
  clear hm0 hn hw
  obtain ⟨F, hFd⟩ : ∃ F : Nat → Int, F = fun k => n + m / 2 + d k % (m - m / 2) := ⟨_, rfl⟩
  have hFr : ∀ k, k < 5 → n + m / 2 ≤ F k ∧ F k ≤ n + m - 1 := fun k hk => by subst hFd; exact fire_range hnm
  refine loop_intro (mono_of L4_ok) (σ := S1 n m F) (fun s => ⟨[(1, .e (.c (.int .i64 n))), (2, .e (.c (.int .i64 m))), (3, one (.ptr 0 0)), (7, one (.ptr 9 0)), (8, .e (.c (.int .i64 s.fst))), (9, .e (.c (.int .i64 s.i)))], [(0, some ⟨38, 5, fun c => .int .u32 (d c)⟩), (9, some ⟨40, 40, cellsL s.L⟩)], 12⟩) (fun s => 5 - s.i) (fun _ => rfl) ?_ ⟨0, fun _ => zeroT, 1099511627776, by omega, fun k hk => by omega, fun k hk => by omega, .inl ⟨rfl, rfl⟩⟩ ?_ ?_
  · rintro ⟨i, L1, f0, hi1, hL1, hge, hfst⟩
    dsimp only
    rcases (show i = 0 ∨ i = 1 ∨ i = 2 ∨ i = 3 ∨ i = 4 ∨ i = 5 by omega) with rfl | rfl | rfl | rfl | rfl | rfl
    · have hdk := hd 0 (by omega)
      repeat' (first | (apply And.intro <;> intro hc <;> (first | exact Bool.noConfusion hc | (simp only [decide_eq_true_eq, decide_eq_false_iff_not, Bool.not_eq_true', Bool.not_eq_false', beq_iff_eq, beq_eq_false_iff_ne, bne_iff_ne, bne_eq_false_iff_eq, Bool.true_eq_false, Bool.false_eq_true, ne_eq, not_true_eq_false, not_false_eq_true] at hc <;> first | (exfalso; omega) | skip) | skip)) | (refine And.intro (by first | decide | omega | (dsimp only; omega) | exact ⟨by assumption, by omega, by omega⟩ | exact u32r _ | assumption) ?_) | (apply And.intro))
      intro z hz
      have hz' : z = newT m 3 1 n (d 0) := hz
      obtain ⟨e1, e2⟩ := cov_new hnm hz'
      clear hz hz'
      have e2' : z.1 = covT n m (F 0) 0 false := by rw [e2, hFd]
      have hF : z.1.fire = F 0 := by rw [e2, hFd]; rfl
      repeat' (first | (apply And.intro <;> intro hc <;> (first | exact Bool.noConfusion hc | (simp only [e1, hF, decide_eq_true_eq, decide_eq_false_iff_not, Bool.not_eq_true', Bool.not_eq_false', beq_iff_eq, beq_eq_false_iff_ne, bne_iff_ne, bne_eq_false_iff_eq, Bool.true_eq_false, Bool.false_eq_true, ne_eq, not_true_eq_false, not_false_eq_true] at hc <;> first | (exfalso; omega) | skip) | skip)) | (refine And.intro (by first | decide | omega | (dsimp only; omega) | exact ⟨by assumption, by omega, by omega⟩ | exact u32r _ | assumption) ?_) | (apply And.intro))
      · refine ⟨⟨1, upd L1 0 z.1, F 0, by omega, s1_a hL1 e2', s1_lt hge (by omega), .inr ⟨0, by omega, rfl⟩⟩, by show 5 - 1 < 5 - 0; omega, ?_, ?_⟩
        · repeat' (first | exact trivial | exact rfl | exact leF_int rfl | exact leF_ptr rfl | exact leN_cells | refine leN_upd rfl ?_ | exact leC_slI (by assumption) | refine leF_int ?_ | refine leF_bool ?_ | refine leN_all ?_ | refine leC_int ?_ | refine leC_bool ?_ | apply And.intro)
          exact hF
        · repeat' (first | exact trivial | exact rfl | exact leF_int rfl | exact leF_ptr rfl | exact leN_cells | refine leN_upd rfl ?_ | exact leC_slI (by assumption) | refine leF_int ?_ | refine leF_bool ?_ | refine leN_all ?_ | refine leC_int ?_ | refine leC_bool ?_ | apply And.intro)
      · refine ⟨⟨1, upd L1 0 z.1, f0, by omega, s1_a hL1 e2', s1_ge hge (by omega), s1_ex hfst (by have := hFr 0 (by omega); omega)⟩, by show 5 - 1 < 5 - 0; omega, ?_, ?_⟩
        · repeat' (first | exact trivial | exact rfl | exact leF_int rfl | exact leF_ptr rfl | exact leN_cells | refine leN_upd rfl ?_ | exact leC_slI (by assumption) | refine leF_int ?_ | refine leF_bool ?_ | refine leN_all ?_ | refine leC_int ?_ | refine leC_bool ?_ | apply And.intro)
        · repeat' (first | exact trivial | exact rfl | exact leF_int rfl | exact leF_ptr rfl | exact leN_cells | refine leN_upd rfl ?_ | exact leC_slI (by assumption) | refine leF_int ?_ | refine leF_bool ?_ | refine leN_all ?_ | refine leC_int ?_ | refine leC_bool ?_ | apply And.intro)
    · have hdk := hd 1 (by omega)
      repeat' (first | (apply And.intro <;> intro hc <;> (first | exact Bool.noConfusion hc | (simp only [decide_eq_true_eq, decide_eq_false_iff_not, Bool.not_eq_true', Bool.not_eq_false', beq_iff_eq, beq_eq_false_iff_ne, bne_iff_ne, bne_eq_false_iff_eq, Bool.true_eq_false, Bool.false_eq_true, ne_eq, not_true_eq_false, not_false_eq_true] at hc <;> first | (exfalso; omega) | skip) | skip)) | (refine And.intro (by first | decide | omega | (dsimp only; omega) | exact ⟨by assumption, by omega, by omega⟩ | exact u32r _ | assumption) ?_) | (apply And.intro))
      intro z hz
      have hz' : z = newT m 3 1 n (d 1) := hz
      obtain ⟨e1, e2⟩ := cov_new hnm hz'
      clear hz hz'
      have e2' : z.1 = covT n m (F 1) 0 false := by rw [e2, hFd]
      have hF : z.1.fire = F 1 := by rw [e2, hFd]; rfl
      repeat' (first | (apply And.intro <;> intro hc <;> (first | exact Bool.noConfusion hc | (simp only [e1, hF, decide_eq_true_eq, decide_eq_false_iff_not, Bool.not_eq_true', Bool.not_eq_false', beq_iff_eq, beq_eq_false_iff_ne, bne_iff_ne, bne_eq_false_iff_eq, Bool.true_eq_false, Bool.false_eq_true, ne_eq, not_true_eq_false, not_false_eq_true] at hc <;> first | (exfalso; omega) | skip) | skip)) | (refine And.intro (by first | decide | omega | (dsimp only; omega) | exact ⟨by assumption, by omega, by omega⟩ | exact u32r _ | assumption) ?_) | (apply And.intro))
      · refine ⟨⟨2, upd L1 1 z.1, F 1, by omega, s1_a hL1 e2', s1_lt hge (by omega), .inr ⟨1, by omega, rfl⟩⟩, by show 5 - 2 < 5 - 1; omega, ?_, ?_⟩
        · repeat' (first | exact trivial | exact rfl | exact leF_int rfl | exact leF_ptr rfl | exact leN_cells | refine leN_upd rfl ?_ | exact leC_slI (by assumption) | refine leF_int ?_ | refine leF_bool ?_ | refine leN_all ?_ | refine leC_int ?_ | refine leC_bool ?_ | apply And.intro)
          exact hF
        · repeat' (first | exact trivial | exact rfl | exact leF_int rfl | exact leF_ptr rfl | exact leN_cells | refine leN_upd rfl ?_ | exact leC_slI (by assumption) | refine leF_int ?_ | refine leF_bool ?_ | refine leN_all ?_ | refine leC_int ?_ | refine leC_bool ?_ | apply And.intro)
      · refine ⟨⟨2, upd L1 1 z.1, f0, by omega, s1_a hL1 e2', s1_ge hge (by omega), s1_ex hfst (by have := hFr 1 (by omega); omega)⟩, by show 5 - 2 < 5 - 1; omega, ?_, ?_⟩
        · repeat' (first | exact trivial | exact rfl | exact leF_int rfl | exact leF_ptr rfl | exact leN_cells | refine leN_upd rfl ?_ | exact leC_slI (by assumption) | refine leF_int ?_ | refine leF_bool ?_ | refine leN_all ?_ | refine leC_int ?_ | refine leC_bool ?_ | apply And.intro)
        · repeat' (first | exact trivial | exact rfl | exact leF_int rfl | exact leF_ptr rfl | exact leN_cells | refine leN_upd rfl ?_ | exact leC_slI (by assumption) | refine leF_int ?_ | refine leF_bool ?_ | refine leN_all ?_ | refine leC_int ?_ | refine leC_bool ?_ | apply And.intro)
    · have hdk := hd 2 (by omega)
      repeat' (first | (apply And.intro <;> intro hc <;> (first | exact Bool.noConfusion hc | (simp only [decide_eq_true_eq, decide_eq_false_iff_not, Bool.not_eq_true', Bool.not_eq_false', beq_iff_eq, beq_eq_false_iff_ne, bne_iff_ne, bne_eq_false_iff_eq, Bool.true_eq_false, Bool.false_eq_true, ne_eq, not_true_eq_false, not_false_eq_true] at hc <;> first | (exfalso; omega) | skip) | skip)) | (refine And.intro (by first | decide | omega | (dsimp only; omega) | exact ⟨by assumption, by omega, by omega⟩ | exact u32r _ | assumption) ?_) | (apply And.intro))
      intro z hz
      have hz' : z = newT m 3 1 n (d 2) := hz
      obtain ⟨e1, e2⟩ := cov_new hnm hz'
      clear hz hz'
      have e2' : z.1 = covT n m (F 2) 0 false := by rw [e2, hFd]
      have hF : z.1.fire = F 2 := by rw [e2, hFd]; rfl
      repeat' (first | (apply And.intro <;> intro hc <;> (first | exact Bool.noConfusion hc | (simp only [e1, hF, decide_eq_true_eq, decide_eq_false_iff_not, Bool.not_eq_true', Bool.not_eq_false', beq_iff_eq, beq_eq_false_iff_ne, bne_iff_ne, bne_eq_false_iff_eq, Bool.true_eq_false, Bool.false_eq_true, ne_eq, not_true_eq_false, not_false_eq_true] at hc <;> first | (exfalso; omega) | skip) | skip)) | (refine And.intro (by first | decide | omega | (dsimp only; omega) | exact ⟨by assumption, by omega, by omega⟩ | exact u32r _ | assumption) ?_) | (apply And.intro))
      · refine ⟨⟨3, upd L1 2 z.1, F 2, by omega, s1_a hL1 e2', s1_lt hge (by omega), .inr ⟨2, by omega, rfl⟩⟩, by show 5 - 3 < 5 - 2; omega, ?_, ?_⟩
        · repeat' (first | exact trivial | exact rfl | exact leF_int rfl | exact leF_ptr rfl | exact leN_cells | refine leN_upd rfl ?_ | exact leC_slI (by assumption) | refine leF_int ?_ | refine leF_bool ?_ | refine leN_all ?_ | refine leC_int ?_ | refine leC_bool ?_ | apply And.intro)
          exact hF
        · repeat' (first | exact trivial | exact rfl | exact leF_int rfl | exact leF_ptr rfl | exact leN_cells | refine leN_upd rfl ?_ | exact leC_slI (by assumption) | refine leF_int ?_ | refine leF_bool ?_ | refine leN_all ?_ | refine leC_int ?_ | refine leC_bool ?_ | apply And.intro)
      · refine ⟨⟨3, upd L1 2 z.1, f0, by omega, s1_a hL1 e2', s1_ge hge (by omega), s1_ex hfst (by have := hFr 2 (by omega); omega)⟩, by show 5 - 3 < 5 - 2; omega, ?_, ?_⟩
        · repeat' (first | exact trivial | exact rfl | exact leF_int rfl | exact leF_ptr rfl | exact leN_cells | refine leN_upd rfl ?_ | exact leC_slI (by assumption) | refine leF_int ?_ | refine leF_bool ?_ | refine leN_all ?_ | refine leC_int ?_ | refine leC_bool ?_ | apply And.intro)
        · repeat' (first | exact trivial | exact rfl | exact leF_int rfl | exact leF_ptr rfl | exact leN_cells | refine leN_upd rfl ?_ | exact leC_slI (by assumption) | refine leF_int ?_ | refine leF_bool ?_ | refine leN_all ?_ | refine leC_int ?_ | refine leC_bool ?_ | apply And.intro)
    · have hdk := hd 3 (by omega)
      repeat' (first | (apply And.intro <;> intro hc <;> (first | exact Bool.noConfusion hc | (simp only [decide_eq_true_eq, decide_eq_false_iff_not, Bool.not_eq_true', Bool.not_eq_false', beq_iff_eq, beq_eq_false_iff_ne, bne_iff_ne, bne_eq_false_iff_eq, Bool.true_eq_false, Bool.false_eq_true, ne_eq, not_true_eq_false, not_false_eq_true] at hc <;> first | (exfalso; omega) | skip) | skip)) | (refine And.intro (by first | decide | omega | (dsimp only; omega) | exact ⟨by assumption, by omega, by omega⟩ | exact u32r _ | assumption) ?_) | (apply And.intro))
      intro z hz
      have hz' : z = newT m 3 1 n (d 3) := hz
      obtain ⟨e1, e2⟩ := cov_new hnm hz'
      clear hz hz'
      have e2' : z.1 = covT n m (F 3) 0 false := by rw [e2, hFd]
      have hF : z.1.fire = F 3 := by rw [e2, hFd]; rfl
      repeat' (first | (apply And.intro <;> intro hc <;> (first | exact Bool.noConfusion hc | (simp only [e1, hF, decide_eq_true_eq, decide_eq_false_iff_not, Bool.not_eq_true', Bool.not_eq_false', beq_iff_eq, beq_eq_false_iff_ne, bne_iff_ne, bne_eq_false_iff_eq, Bool.true_eq_false, Bool.false_eq_true, ne_eq, not_true_eq_false, not_false_eq_true] at hc <;> first | (exfalso; omega) | skip) | skip)) | (refine And.intro (by first | decide | omega | (dsimp only; omega) | exact ⟨by assumption, by omega, by omega⟩ | exact u32r _ | assumption) ?_) | (apply And.intro))
      · refine ⟨⟨4, upd L1 3 z.1, F 3, by omega, s1_a hL1 e2', s1_lt hge (by omega), .inr ⟨3, by omega, rfl⟩⟩, by show 5 - 4 < 5 - 3; omega, ?_, ?_⟩
        · repeat' (first | exact trivial | exact rfl | exact leF_int rfl | exact leF_ptr rfl | exact leN_cells | refine leN_upd rfl ?_ | exact leC_slI (by assumption) | refine leF_int ?_ | refine leF_bool ?_ | refine leN_all ?_ | refine leC_int ?_ | refine leC_bool ?_ | apply And.intro)
          exact hF
        · repeat' (first | exact trivial | exact rfl | exact leF_int rfl | exact leF_ptr rfl | exact leN_cells | refine leN_upd rfl ?_ | exact leC_slI (by assumption) | refine leF_int ?_ | refine leF_bool ?_ | refine leN_all ?_ | refine leC_int ?_ | refine leC_bool ?_ | apply And.intro)
      · refine ⟨⟨4, upd L1 3 z.1, f0, by omega, s1_a hL1 e2', s1_ge hge (by omega), s1_ex hfst (by have := hFr 3 (by omega); omega)⟩, by show 5 - 4 < 5 - 3; omega, ?_, ?_⟩
        · repeat' (first | exact trivial | exact rfl | exact leF_int rfl | exact leF_ptr rfl | exact leN_cells | refine leN_upd rfl ?_ | exact leC_slI (by assumption) | refine leF_int ?_ | refine leF_bool ?_ | refine leN_all ?_ | refine leC_int ?_ | refine leC_bool ?_ | apply And.intro)
        · repeat' (first | exact trivial | exact rfl | exact leF_int rfl | exact leF_ptr rfl | exact leN_cells | refine leN_upd rfl ?_ | exact leC_slI (by assumption) | refine leF_int ?_ | refine leF_bool ?_ | refine leN_all ?_ | refine leC_int ?_ | refine leC_bool ?_ | apply And.intro)
    · have hdk := hd 4 (by omega)
      repeat' (first | (apply And.intro <;> intro hc <;> (first | exact Bool.noConfusion hc | (simp only [decide_eq_true_eq, decide_eq_false_iff_not, Bool.not_eq_true', Bool.not_eq_false', beq_iff_eq, beq_eq_false_iff_ne, bne_iff_ne, bne_eq_false_iff_eq, Bool.true_eq_false, Bool.false_eq_true, ne_eq, not_true_eq_false, not_false_eq_true] at hc <;> first | (exfalso; omega) | skip) | skip)) | (refine And.intro (by first | decide | omega | (dsimp only; omega) | exact ⟨by assumption, by omega, by omega⟩ | exact u32r _ | assumption) ?_) | (apply And.intro))
      intro z hz
      have hz' : z = newT m 3 1 n (d 4) := hz
      obtain ⟨e1, e2⟩ := cov_new hnm hz'
      clear hz hz'
      have e2' : z.1 = covT n m (F 4) 0 false := by rw [e2, hFd]
      have hF : z.1.fire = F 4 := by rw [e2, hFd]; rfl
      repeat' (first | (apply And.intro <;> intro hc <;> (first | exact Bool.noConfusion hc | (simp only [e1, hF, decide_eq_true_eq, decide_eq_false_iff_not, Bool.not_eq_true', Bool.not_eq_false', beq_iff_eq, beq_eq_false_iff_ne, bne_iff_ne, bne_eq_false_iff_eq, Bool.true_eq_false, Bool.false_eq_true, ne_eq, not_true_eq_false, not_false_eq_true] at hc <;> first | (exfalso; omega) | skip) | skip)) | (refine And.intro (by first | decide | omega | (dsimp only; omega) | exact ⟨by assumption, by omega, by omega⟩ | exact u32r _ | assumption) ?_) | (apply And.intro))
      · refine ⟨⟨5, upd L1 4 z.1, F 4, by omega, s1_a hL1 e2', s1_lt hge (by omega), .inr ⟨4, by omega, rfl⟩⟩, by show 5 - 5 < 5 - 4; omega, ?_, ?_⟩
        · repeat' (first | exact trivial | exact rfl | exact leF_int rfl | exact leF_ptr rfl | exact leN_cells | refine leN_upd rfl ?_ | exact leC_slI (by assumption) | refine leF_int ?_ | refine leF_bool ?_ | refine leN_all ?_ | refine leC_int ?_ | refine leC_bool ?_ | apply And.intro)
          exact hF
        · repeat' (first | exact trivial | exact rfl | exact leF_int rfl | exact leF_ptr rfl | exact leN_cells | refine leN_upd rfl ?_ | exact leC_slI (by assumption) | refine leF_int ?_ | refine leF_bool ?_ | refine leN_all ?_ | refine leC_int ?_ | refine leC_bool ?_ | apply And.intro)
      · refine ⟨⟨5, upd L1 4 z.1, f0, by omega, s1_a hL1 e2', s1_ge hge (by omega), s1_ex hfst (by have := hFr 4 (by omega); omega)⟩, by show 5 - 5 < 5 - 4; omega, ?_, ?_⟩
        · repeat' (first | exact trivial | exact rfl | exact leF_int rfl | exact leF_ptr rfl | exact leN_cells | refine leN_upd rfl ?_ | exact leC_slI (by assumption) | refine leF_int ?_ | refine leF_bool ?_ | refine leN_all ?_ | refine leC_int ?_ | refine leC_bool ?_ | apply And.intro)
        · repeat' (first | exact trivial | exact rfl | exact leF_int rfl | exact leF_ptr rfl | exact leN_cells | refine leN_upd rfl ?_ | exact leC_slI (by assumption) | refine leF_int ?_ | refine leF_bool ?_ | refine leN_all ?_ | refine leC_int ?_ | refine leC_bool ?_ | apply And.intro)
    · have hex : ∃ k, k < 5 ∧ F k = f0 := by
        rcases hfst with ⟨h, _⟩ | ⟨k, hk, e⟩
        · cases h
        · exact ⟨k, hk, e.symm⟩
      have hnf : n ≤ f0 := by obtain ⟨k, hk, e⟩ := hex; have := hFr k hk; omega
      repeat' (first | (apply And.intro <;> intro hc <;> (first | exact Bool.noConfusion hc | (simp only [decide_eq_true_eq, decide_eq_false_iff_not, Bool.not_eq_true', Bool.not_eq_false', beq_iff_eq, beq_eq_false_iff_ne, bne_iff_ne, bne_eq_false_iff_eq, Bool.true_eq_false, Bool.false_eq_true, ne_eq, not_true_eq_false, not_false_eq_true] at hc <;> first | (exfalso; omega) | skip) | skip)) | (refine And.intro (by first | decide | omega | (dsimp only; omega) | exact ⟨by assumption, by omega, by omega⟩ | exact u32r _ | assumption) ?_) | (apply And.intro))
      refine loop_intro (mono_of L4_ok) (σ := S2 n m f0 F) (fun s => ⟨[(1, .e (.c (.int .i64 n))), (2, .e (.c (.int .i64 m))), (7, one (.ptr 9 0)), (8, .e (.c (.int .i64 f0))), (12, .e (.c (.int .i64 s.t)))], [(9, some ⟨40, 40, cellsL s.L⟩)], 12⟩) (fun s => (n + m - s.t).toNat) (fun _ => rfl) ?_ ⟨n, L1, by omega, s2_init hL1 hnf⟩ ?_ ?_
      · clear hL1 hfst
        rintro ⟨t, L2, ht, hL2⟩
        dsimp only
        have w1 : IntKind.i64.wrap (n + m) = n + m := IntWalk.i64_in _ (by omega)
        repeat' (first | (apply And.intro <;> intro hc <;> (first | exact Bool.noConfusion hc | (simp only [w1, decide_eq_true_eq, decide_eq_false_iff_not, Bool.not_eq_true', Bool.not_eq_false', beq_iff_eq, beq_eq_false_iff_ne, bne_iff_ne, bne_eq_false_iff_eq, Bool.true_eq_false, Bool.false_eq_true, ne_eq, not_true_eq_false, not_false_eq_true] at hc <;> first | (exfalso; omega) | skip) | skip)) | (refine And.intro (by first | decide | omega | (dsimp only; omega) | exact ⟨by assumption, by omega, by omega⟩ | exact u32r _ | assumption) ?_) | (apply And.intro))
        · refine loop_intro (mono_of L4_ok) (σ := S3 n m f0 t F) (fun s => ⟨[(1, .e (.c (.int .i64 n))), (2, .e (.c (.int .i64 m))), (7, one (.ptr 9 0)), (8, .e (.c (.int .i64 f0))), (12, .e (.c (.int .i64 t))), (13, one (.ptr 17 0)), (14, .e (.c (.int .i64 s.i)))], [(9, some ⟨40, 40, cellsL s.L⟩), (17, some ⟨41, 5, fun c => .bool (s.s c)⟩)], 19⟩) (fun s => 5 - s.i) (fun _ => rfl) ?_ ⟨0, L2, fun _ => false, by omega, fun k hk => by omega, fun k _ hk => hL2 k hk⟩ ?_ ?_
          · rintro ⟨i, L3, sd, hi3, hL3a, hL3b⟩
            dsimp only
            rcases (show i = 0 ∨ i = 1 ∨ i = 2 ∨ i = 3 ∨ i = 4 ∨ i = 5 by omega) with rfl | rfl | rfl | rfl | rfl | rfl
            · obtain ⟨h, b, hLk, hP⟩ := hL3b 0 (by omega) (by omega)
              repeat' (first | (apply And.intro <;> intro hc <;> (first | exact Bool.noConfusion hc | (simp only [decide_eq_true_eq, decide_eq_false_iff_not, Bool.not_eq_true', Bool.not_eq_false', beq_iff_eq, beq_eq_false_iff_ne, bne_iff_ne, bne_eq_false_iff_eq, Bool.true_eq_false, Bool.false_eq_true, ne_eq, not_true_eq_false, not_false_eq_true] at hc <;> first | (exfalso; omega) | skip) | skip)) | (refine And.intro (by first | decide | omega | (dsimp only; omega) | exact ⟨by assumption, by omega, by omega⟩ | exact u32r _ | assumption) ?_) | (apply And.intro))
              intro z hz
              have hz' : z = stepT (L3 0) t 0 := hz
              clear hz
              obtain ⟨e1, e2, e3⟩ := p_step hP (hge 0 (by omega)) (hFr 0 (by omega)) hnm (by omega) (hz'.trans (by rw [hLk]))
              have hF : (L3 0).fire = F 0 := by rw [hLk]; rfl
              repeat' (first | (apply And.intro <;> intro hc <;> (first | exact Bool.noConfusion hc | (exfalso; (first | exact ne_ref e2 hF (by assumption) hc | (rw [e2] at hc; revert hc; simp_all; done) | (simp_all; done)); done) | (simp only [ e1, decide_eq_true_eq, decide_eq_false_iff_not, Bool.not_eq_true', Bool.not_eq_false', beq_iff_eq, beq_eq_false_iff_ne, bne_iff_ne, bne_eq_false_iff_eq, Bool.true_eq_false, Bool.false_eq_true, ne_eq, not_true_eq_false, not_false_eq_true] at hc <;> first | (exfalso; omega) | skip) | skip)) | (refine And.intro (by first | decide | omega | (dsimp only; omega) | exact ⟨by assumption, by omega, by omega⟩ | exact u32r _ | assumption) ?_) | (apply And.intro))
              all_goals
                refine ⟨⟨1, upd L3 0 z.1, updS sd 0 z.2.1, by omega, s3_a hL3a e2 e3, s3_b hL3b⟩, by show 5 - 1 < 5 - 0; omega, ?_, ?_⟩
                · repeat' (first | exact trivial | exact rfl | exact leF_int rfl | exact leF_ptr rfl | exact leN_cells | refine leN_upd rfl ?_ | exact leC_slI (by assumption) | refine leF_int ?_ | refine leF_bool ?_ | refine leN_all ?_ | refine leC_int ?_ | refine leC_bool ?_ | apply And.intro)
                · repeat' (first | exact trivial | exact rfl | exact leF_int rfl | exact leF_ptr rfl | exact leN_cells | refine leN_upd rfl ?_ | exact leC_slI (by assumption) | refine leF_int ?_ | refine leF_bool ?_ | refine leN_all ?_ | refine leC_int ?_ | refine leC_bool ?_ | apply And.intro)
            · obtain ⟨h, b, hLk, hP⟩ := hL3b 1 (by omega) (by omega)
              repeat' (first | (apply And.intro <;> intro hc <;> (first | exact Bool.noConfusion hc | (simp only [decide_eq_true_eq, decide_eq_false_iff_not, Bool.not_eq_true', Bool.not_eq_false', beq_iff_eq, beq_eq_false_iff_ne, bne_iff_ne, bne_eq_false_iff_eq, Bool.true_eq_false, Bool.false_eq_true, ne_eq, not_true_eq_false, not_false_eq_true] at hc <;> first | (exfalso; omega) | skip) | skip)) | (refine And.intro (by first | decide | omega | (dsimp only; omega) | exact ⟨by assumption, by omega, by omega⟩ | exact u32r _ | assumption) ?_) | (apply And.intro))
              intro z hz
              have hz' : z = stepT (L3 1) t 0 := hz
              clear hz
              obtain ⟨e1, e2, e3⟩ := p_step hP (hge 1 (by omega)) (hFr 1 (by omega)) hnm (by omega) (hz'.trans (by rw [hLk]))
              have hF : (L3 1).fire = F 1 := by rw [hLk]; rfl
              repeat' (first | (apply And.intro <;> intro hc <;> (first | exact Bool.noConfusion hc | (exfalso; (first | exact ne_ref e2 hF (by assumption) hc | (rw [e2] at hc; revert hc; simp_all; done) | (simp_all; done)); done) | (simp only [ e1, decide_eq_true_eq, decide_eq_false_iff_not, Bool.not_eq_true', Bool.not_eq_false', beq_iff_eq, beq_eq_false_iff_ne, bne_iff_ne, bne_eq_false_iff_eq, Bool.true_eq_false, Bool.false_eq_true, ne_eq, not_true_eq_false, not_false_eq_true] at hc <;> first | (exfalso; omega) | skip) | skip)) | (refine And.intro (by first | decide | omega | (dsimp only; omega) | exact ⟨by assumption, by omega, by omega⟩ | exact u32r _ | assumption) ?_) | (apply And.intro))
              all_goals
                refine ⟨⟨2, upd L3 1 z.1, updS sd 1 z.2.1, by omega, s3_a hL3a e2 e3, s3_b hL3b⟩, by show 5 - 2 < 5 - 1; omega, ?_, ?_⟩
                · repeat' (first | exact trivial | exact rfl | exact leF_int rfl | exact leF_ptr rfl | exact leN_cells | refine leN_upd rfl ?_ | exact leC_slI (by assumption) | refine leF_int ?_ | refine leF_bool ?_ | refine leN_all ?_ | refine leC_int ?_ | refine leC_bool ?_ | apply And.intro)
                · repeat' (first | exact trivial | exact rfl | exact leF_int rfl | exact leF_ptr rfl | exact leN_cells | refine leN_upd rfl ?_ | exact leC_slI (by assumption) | refine leF_int ?_ | refine leF_bool ?_ | refine leN_all ?_ | refine leC_int ?_ | refine leC_bool ?_ | apply And.intro)
            · obtain ⟨h, b, hLk, hP⟩ := hL3b 2 (by omega) (by omega)
              repeat' (first | (apply And.intro <;> intro hc <;> (first | exact Bool.noConfusion hc | (simp only [decide_eq_true_eq, decide_eq_false_iff_not, Bool.not_eq_true', Bool.not_eq_false', beq_iff_eq, beq_eq_false_iff_ne, bne_iff_ne, bne_eq_false_iff_eq, Bool.true_eq_false, Bool.false_eq_true, ne_eq, not_true_eq_false, not_false_eq_true] at hc <;> first | (exfalso; omega) | skip) | skip)) | (refine And.intro (by first | decide | omega | (dsimp only; omega) | exact ⟨by assumption, by omega, by omega⟩ | exact u32r _ | assumption) ?_) | (apply And.intro))
              intro z hz
              have hz' : z = stepT (L3 2) t 0 := hz
              clear hz
              obtain ⟨e1, e2, e3⟩ := p_step hP (hge 2 (by omega)) (hFr 2 (by omega)) hnm (by omega) (hz'.trans (by rw [hLk]))
              have hF : (L3 2).fire = F 2 := by rw [hLk]; rfl
              repeat' (first | (apply And.intro <;> intro hc <;> (first | exact Bool.noConfusion hc | (exfalso; (first | exact ne_ref e2 hF (by assumption) hc | (rw [e2] at hc; revert hc; simp_all; done) | (simp_all; done)); done) | (simp only [ e1, decide_eq_true_eq, decide_eq_false_iff_not, Bool.not_eq_true', Bool.not_eq_false', beq_iff_eq, beq_eq_false_iff_ne, bne_iff_ne, bne_eq_false_iff_eq, Bool.true_eq_false, Bool.false_eq_true, ne_eq, not_true_eq_false, not_false_eq_true] at hc <;> first | (exfalso; omega) | skip) | skip)) | (refine And.intro (by first | decide | omega | (dsimp only; omega) | exact ⟨by assumption, by omega, by omega⟩ | exact u32r _ | assumption) ?_) | (apply And.intro))
              all_goals
                refine ⟨⟨3, upd L3 2 z.1, updS sd 2 z.2.1, by omega, s3_a hL3a e2 e3, s3_b hL3b⟩, by show 5 - 3 < 5 - 2; omega, ?_, ?_⟩
                · repeat' (first | exact trivial | exact rfl | exact leF_int rfl | exact leF_ptr rfl | exact leN_cells | refine leN_upd rfl ?_ | exact leC_slI (by assumption) | refine leF_int ?_ | refine leF_bool ?_ | refine leN_all ?_ | refine leC_int ?_ | refine leC_bool ?_ | apply And.intro)
                · repeat' (first | exact trivial | exact rfl | exact leF_int rfl | exact leF_ptr rfl | exact leN_cells | refine leN_upd rfl ?_ | exact leC_slI (by assumption) | refine leF_int ?_ | refine leF_bool ?_ | refine leN_all ?_ | refine leC_int ?_ | refine leC_bool ?_ | apply And.intro)
            · obtain ⟨h, b, hLk, hP⟩ := hL3b 3 (by omega) (by omega)
              repeat' (first | (apply And.intro <;> intro hc <;> (first | exact Bool.noConfusion hc | (simp only [decide_eq_true_eq, decide_eq_false_iff_not, Bool.not_eq_true', Bool.not_eq_false', beq_iff_eq, beq_eq_false_iff_ne, bne_iff_ne, bne_eq_false_iff_eq, Bool.true_eq_false, Bool.false_eq_true, ne_eq, not_true_eq_false, not_false_eq_true] at hc <;> first | (exfalso; omega) | skip) | skip)) | (refine And.intro (by first | decide | omega | (dsimp only; omega) | exact ⟨by assumption, by omega, by omega⟩ | exact u32r _ | assumption) ?_) | (apply And.intro))
              intro z hz
              have hz' : z = stepT (L3 3) t 0 := hz
              clear hz
              obtain ⟨e1, e2, e3⟩ := p_step hP (hge 3 (by omega)) (hFr 3 (by omega)) hnm (by omega) (hz'.trans (by rw [hLk]))
              have hF : (L3 3).fire = F 3 := by rw [hLk]; rfl
              repeat' (first | (apply And.intro <;> intro hc <;> (first | exact Bool.noConfusion hc | (exfalso; (first | exact ne_ref e2 hF (by assumption) hc | (rw [e2] at hc; revert hc; simp_all; done) | (simp_all; done)); done) | (simp only [ e1, decide_eq_true_eq, decide_eq_false_iff_not, Bool.not_eq_true', Bool.not_eq_false', beq_iff_eq, beq_eq_false_iff_ne, bne_iff_ne, bne_eq_false_iff_eq, Bool.true_eq_false, Bool.false_eq_true, ne_eq, not_true_eq_false, not_false_eq_true] at hc <;> first | (exfalso; omega) | skip) | skip)) | (refine And.intro (by first | decide | omega | (dsimp only; omega) | exact ⟨by assumption, by omega, by omega⟩ | exact u32r _ | assumption) ?_) | (apply And.intro))
              all_goals
                refine ⟨⟨4, upd L3 3 z.1, updS sd 3 z.2.1, by omega, s3_a hL3a e2 e3, s3_b hL3b⟩, by show 5 - 4 < 5 - 3; omega, ?_, ?_⟩
                · repeat' (first | exact trivial | exact rfl | exact leF_int rfl | exact leF_ptr rfl | exact leN_cells | refine leN_upd rfl ?_ | exact leC_slI (by assumption) | refine leF_int ?_ | refine leF_bool ?_ | refine leN_all ?_ | refine leC_int ?_ | refine leC_bool ?_ | apply And.intro)
                · repeat' (first | exact trivial | exact rfl | exact leF_int rfl | exact leF_ptr rfl | exact leN_cells | refine leN_upd rfl ?_ | exact leC_slI (by assumption) | refine leF_int ?_ | refine leF_bool ?_ | refine leN_all ?_ | refine leC_int ?_ | refine leC_bool ?_ | apply And.intro)
            · obtain ⟨h, b, hLk, hP⟩ := hL3b 4 (by omega) (by omega)
              repeat' (first | (apply And.intro <;> intro hc <;> (first | exact Bool.noConfusion hc | (simp only [decide_eq_true_eq, decide_eq_false_iff_not, Bool.not_eq_true', Bool.not_eq_false', beq_iff_eq, beq_eq_false_iff_ne, bne_iff_ne, bne_eq_false_iff_eq, Bool.true_eq_false, Bool.false_eq_true, ne_eq, not_true_eq_false, not_false_eq_true] at hc <;> first | (exfalso; omega) | skip) | skip)) | (refine And.intro (by first | decide | omega | (dsimp only; omega) | exact ⟨by assumption, by omega, by omega⟩ | exact u32r _ | assumption) ?_) | (apply And.intro))
              intro z hz
              have hz' : z = stepT (L3 4) t 0 := hz
              clear hz
              obtain ⟨e1, e2, e3⟩ := p_step hP (hge 4 (by omega)) (hFr 4 (by omega)) hnm (by omega) (hz'.trans (by rw [hLk]))
              have hF : (L3 4).fire = F 4 := by rw [hLk]; rfl
              repeat' (first | (apply And.intro <;> intro hc <;> (first | exact Bool.noConfusion hc | (exfalso; (first | exact ne_ref e2 hF (by assumption) hc | (rw [e2] at hc; revert hc; simp_all; done) | (simp_all; done)); done) | (simp only [ e1, decide_eq_true_eq, decide_eq_false_iff_not, Bool.not_eq_true', Bool.not_eq_false', beq_iff_eq, beq_eq_false_iff_ne, bne_iff_ne, bne_eq_false_iff_eq, Bool.true_eq_false, Bool.false_eq_true, ne_eq, not_true_eq_false, not_false_eq_true] at hc <;> first | (exfalso; omega) | skip) | skip)) | (refine And.intro (by first | decide | omega | (dsimp only; omega) | exact ⟨by assumption, by omega, by omega⟩ | exact u32r _ | assumption) ?_) | (apply And.intro))
              all_goals
                refine ⟨⟨5, upd L3 4 z.1, updS sd 4 z.2.1, by omega, s3_a hL3a e2 e3, s3_b hL3b⟩, by show 5 - 5 < 5 - 4; omega, ?_, ?_⟩
                · repeat' (first | exact trivial | exact rfl | exact leF_int rfl | exact leF_ptr rfl | exact leN_cells | refine leN_upd rfl ?_ | exact leC_slI (by assumption) | refine leF_int ?_ | refine leF_bool ?_ | refine leN_all ?_ | refine leC_int ?_ | refine leC_bool ?_ | apply And.intro)
                · repeat' (first | exact trivial | exact rfl | exact leF_int rfl | exact leF_ptr rfl | exact leN_cells | refine leN_upd rfl ?_ | exact leC_slI (by assumption) | refine leF_int ?_ | refine leF_bool ?_ | refine leN_all ?_ | refine leC_int ?_ | refine leC_bool ?_ | apply And.intro)
            · have hL3 := fun k hk => (hL3a k hk).1
              have hsd0 := fun k hk => (hL3a k hk).2
              repeat' (first | (apply And.intro <;> intro hc <;> (first | exact Bool.noConfusion hc | (simp only [decide_eq_true_eq, decide_eq_false_iff_not, Bool.not_eq_true', Bool.not_eq_false', beq_iff_eq, beq_eq_false_iff_ne, bne_iff_ne, bne_eq_false_iff_eq, Bool.true_eq_false, Bool.false_eq_true] at hc) | skip)) | (refine And.intro (by first | decide | omega | (dsimp only; omega) | exact ⟨by assumption, by omega, by omega⟩ | exact u32r _) ?_) | (apply And.intro))
              refine loop_intro (mono_of L4_ok) (σ := S4 n m f0 t F) (fun s => ⟨[(1, .e (.c (.int .i64 n))), (2, .e (.c (.int .i64 m))), (7, one (.ptr 9 0)), (8, .e (.c (.int .i64 f0))), (12, .e (.c (.int .i64 t))), (13, one (.ptr 17 0)), (18, .e (.c (.int .i64 s.i)))], [(9, some ⟨40, 40, cellsL s.L⟩), (17, some ⟨41, 5, fun c => .bool (sd c)⟩)], 19⟩) (fun s => 5 - s.i) (fun _ => rfl) ?_ ⟨0, L3, by omega, s4_init hL3⟩ ?_ ?_
              · rintro ⟨i, L4', hi4, hL4⟩
                dsimp only
                rcases (show i = 0 ∨ i = 1 ∨ i = 2 ∨ i = 3 ∨ i = 4 ∨ i = 5 by omega) with rfl | rfl | rfl | rfl | rfl | rfl
                · repeat' (first | (apply And.intro <;> intro hc <;> (first | exact Bool.noConfusion hc | (simp only [decide_eq_true_eq, decide_eq_false_iff_not, Bool.not_eq_true', Bool.not_eq_false', beq_iff_eq, beq_eq_false_iff_ne, bne_iff_ne, bne_eq_false_iff_eq, Bool.true_eq_false, Bool.false_eq_true] at hc) | skip)) | (refine And.intro (by first | decide | omega | (dsimp only; omega) | exact ⟨by assumption, by omega, by omega⟩ | exact u32r _) ?_) | (apply And.intro))
                  refine loop_intro (mono_of L4_ok) (σ := S5 n m f0 t F 0) (fun s => ⟨[(1, .e (.c (.int .i64 n))), (2, .e (.c (.int .i64 m))), (7, one (.ptr 9 0)), (8, .e (.c (.int .i64 f0))), (12, .e (.c (.int .i64 t))), (13, one (.ptr 17 0)), (18, .e (.c (.int .i64 0))), (19, .e (.c (.int .i64 s.j)))], [(9, some ⟨40, 40, cellsL s.L⟩), (17, some ⟨41, 5, fun c => .bool (sd c)⟩)], 19⟩) (fun s => 5 - s.j) (fun _ => rfl) ?_ ⟨0, L4', by omega, s5_init hL4⟩ ?_ ?_
                  · rintro ⟨j, L5, hj5, hL5⟩
                    dsimp only
                    rcases (show j = 0 ∨ j = 1 ∨ j = 2 ∨ j = 3 ∨ j = 4 ∨ j = 5 by omega) with rfl | rfl | rfl | rfl | rfl | rfl
                    · cases hsn : sd 0 with
                      | true =>
                        have hsd : t = f0 ∧ F 0 = f0 := by simpa [hsn] using (hsd0 0 (by omega)).symm
                        repeat' (first | (apply And.intro <;> intro hc <;> (first | exact Bool.noConfusion hc | (exfalso; simp [hsn] at hc; done) | (simp only [ hsn, decide_eq_true_eq, decide_eq_false_iff_not, Bool.not_eq_true', Bool.not_eq_false', beq_iff_eq, beq_eq_false_iff_ne, bne_iff_ne, bne_eq_false_iff_eq, Bool.true_eq_false, Bool.false_eq_true, ne_eq, not_true_eq_false, not_false_eq_true] at hc <;> first | (exfalso; omega) | skip) | skip)) | (refine And.intro (by first | decide | omega | (dsimp only; omega) | exact ⟨by assumption, by omega, by omega⟩ | exact u32r _ | assumption) ?_) | (apply And.intro))
                        refine ⟨⟨1, L5, by omega, r5_same hL5 (fun h => absurd rfl h)⟩, by show 5 - 1 < 5 - 0; omega, ?_, ?_⟩
                        · repeat' (first | exact trivial | exact rfl | exact leF_int rfl | exact leF_ptr rfl | exact leN_cells | refine leN_upd rfl ?_ | exact leC_slI (by assumption) | refine leF_int ?_ | refine leF_bool ?_ | refine leN_all ?_ | refine leC_int ?_ | refine leC_bool ?_ | apply And.intro)
                        · repeat' (first | exact trivial | exact rfl | exact leF_int rfl | exact leF_ptr rfl | exact leN_cells | refine leN_upd rfl ?_ | exact leC_slI (by assumption) | refine leF_int ?_ | refine leF_bool ?_ | refine leN_all ?_ | refine leC_int ?_ | refine leC_bool ?_ | apply And.intro)
                      | false =>
                        have hsd : ¬ (t = f0 ∧ F 0 = f0) := by simpa [hsn] using (hsd0 0 (by omega)).symm
                        repeat' (first | (apply And.intro <;> intro hc <;> (first | exact Bool.noConfusion hc | (exfalso; simp [hsn] at hc; done) | (simp only [ hsn, decide_eq_true_eq, decide_eq_false_iff_not, Bool.not_eq_true', Bool.not_eq_false', beq_iff_eq, beq_eq_false_iff_ne, bne_iff_ne, bne_eq_false_iff_eq, Bool.true_eq_false, Bool.false_eq_true, ne_eq, not_true_eq_false, not_false_eq_true] at hc <;> first | (exfalso; omega) | skip) | skip)) | (refine And.intro (by first | decide | omega | (dsimp only; omega) | exact ⟨by assumption, by omega, by omega⟩ | exact u32r _ | assumption) ?_) | (apply And.intro))
                        refine ⟨⟨1, L5, by omega, r5_same hL5 (fun _ => hsd)⟩, by show 5 - 1 < 5 - 0; omega, ?_, ?_⟩
                        · repeat' (first | exact trivial | exact rfl | exact leF_int rfl | exact leF_ptr rfl | exact leN_cells | refine leN_upd rfl ?_ | exact leC_slI (by assumption) | refine leF_int ?_ | refine leF_bool ?_ | refine leN_all ?_ | refine leC_int ?_ | refine leC_bool ?_ | apply And.intro)
                        · repeat' (first | exact trivial | exact rfl | exact leF_int rfl | exact leF_ptr rfl | exact leN_cells | refine leN_upd rfl ?_ | exact leC_slI (by assumption) | refine leF_int ?_ | refine leF_bool ?_ | refine leN_all ?_ | refine leC_int ?_ | refine leC_bool ?_ | apply And.intro)
                    · cases hsn : sd 1 with
                      | true =>
                        have hsd : t = f0 ∧ F 1 = f0 := by simpa [hsn] using (hsd0 1 (by omega)).symm
                        repeat' (first | (apply And.intro <;> intro hc <;> (first | exact Bool.noConfusion hc | (exfalso; simp [hsn] at hc; done) | (simp only [ hsn, decide_eq_true_eq, decide_eq_false_iff_not, Bool.not_eq_true', Bool.not_eq_false', beq_iff_eq, beq_eq_false_iff_ne, bne_iff_ne, bne_eq_false_iff_eq, Bool.true_eq_false, Bool.false_eq_true, ne_eq, not_true_eq_false, not_false_eq_true] at hc <;> first | (exfalso; omega) | skip) | skip)) | (refine And.intro (by first | decide | omega | (dsimp only; omega) | exact ⟨by assumption, by omega, by omega⟩ | exact u32r _ | assumption) ?_) | (apply And.intro))
                        intro z hz
                        have hz' : z = hearT (L5 0) := hz
                        clear hz
                        repeat' (first | (apply And.intro <;> intro hc <;> (first | exact Bool.noConfusion hc | (simp only [decide_eq_true_eq, decide_eq_false_iff_not, Bool.not_eq_true', Bool.not_eq_false', beq_iff_eq, beq_eq_false_iff_ne, bne_iff_ne, bne_eq_false_iff_eq, Bool.true_eq_false, Bool.false_eq_true] at hc) | skip)) | (refine And.intro (by first | decide | omega | (dsimp only; omega) | exact ⟨by assumption, by omega, by omega⟩ | exact u32r _) ?_) | (apply And.intro))
                        refine ⟨⟨2, upd L5 0 z, by omega, r5_hear hL5 (by omega) hnm (hFr 0 (by omega)) hz' hsd.1⟩, by show 5 - 2 < 5 - 1; omega, ?_, ?_⟩
                        · repeat' (first | exact trivial | exact rfl | exact leF_int rfl | exact leF_ptr rfl | exact leN_cells | refine leN_upd rfl ?_ | exact leC_slI (by assumption) | refine leF_int ?_ | refine leF_bool ?_ | refine leN_all ?_ | refine leC_int ?_ | refine leC_bool ?_ | apply And.intro)
                        · repeat' (first | exact trivial | exact rfl | exact leF_int rfl | exact leF_ptr rfl | exact leN_cells | refine leN_upd rfl ?_ | exact leC_slI (by assumption) | refine leF_int ?_ | refine leF_bool ?_ | refine leN_all ?_ | refine leC_int ?_ | refine leC_bool ?_ | apply And.intro)
                      | false =>
                        have hsd : ¬ (t = f0 ∧ F 1 = f0) := by simpa [hsn] using (hsd0 1 (by omega)).symm
                        repeat' (first | (apply And.intro <;> intro hc <;> (first | exact Bool.noConfusion hc | (exfalso; simp [hsn] at hc; done) | (simp only [ hsn, decide_eq_true_eq, decide_eq_false_iff_not, Bool.not_eq_true', Bool.not_eq_false', beq_iff_eq, beq_eq_false_iff_ne, bne_iff_ne, bne_eq_false_iff_eq, Bool.true_eq_false, Bool.false_eq_true, ne_eq, not_true_eq_false, not_false_eq_true] at hc <;> first | (exfalso; omega) | skip) | skip)) | (refine And.intro (by first | decide | omega | (dsimp only; omega) | exact ⟨by assumption, by omega, by omega⟩ | exact u32r _ | assumption) ?_) | (apply And.intro))
                        refine ⟨⟨2, L5, by omega, r5_same hL5 (fun _ => hsd)⟩, by show 5 - 2 < 5 - 1; omega, ?_, ?_⟩
                        · repeat' (first | exact trivial | exact rfl | exact leF_int rfl | exact leF_ptr rfl | exact leN_cells | refine leN_upd rfl ?_ | exact leC_slI (by assumption) | refine leF_int ?_ | refine leF_bool ?_ | refine leN_all ?_ | refine leC_int ?_ | refine leC_bool ?_ | apply And.intro)
                        · repeat' (first | exact trivial | exact rfl | exact leF_int rfl | exact leF_ptr rfl | exact leN_cells | refine leN_upd rfl ?_ | exact leC_slI (by assumption) | refine leF_int ?_ | refine leF_bool ?_ | refine leN_all ?_ | refine leC_int ?_ | refine leC_bool ?_ | apply And.intro)
                    · cases hsn : sd 2 with
                      | true =>
                        have hsd : t = f0 ∧ F 2 = f0 := by simpa [hsn] using (hsd0 2 (by omega)).symm
                        repeat' (first | (apply And.intro <;> intro hc <;> (first | exact Bool.noConfusion hc | (exfalso; simp [hsn] at hc; done) | (simp only [ hsn, decide_eq_true_eq, decide_eq_false_iff_not, Bool.not_eq_true', Bool.not_eq_false', beq_iff_eq, beq_eq_false_iff_ne, bne_iff_ne, bne_eq_false_iff_eq, Bool.true_eq_false, Bool.false_eq_true, ne_eq, not_true_eq_false, not_false_eq_true] at hc <;> first | (exfalso; omega) | skip) | skip)) | (refine And.intro (by first | decide | omega | (dsimp only; omega) | exact ⟨by assumption, by omega, by omega⟩ | exact u32r _ | assumption) ?_) | (apply And.intro))
                        intro z hz
                        have hz' : z = hearT (L5 0) := hz
                        clear hz
                        repeat' (first | (apply And.intro <;> intro hc <;> (first | exact Bool.noConfusion hc | (simp only [decide_eq_true_eq, decide_eq_false_iff_not, Bool.not_eq_true', Bool.not_eq_false', beq_iff_eq, beq_eq_false_iff_ne, bne_iff_ne, bne_eq_false_iff_eq, Bool.true_eq_false, Bool.false_eq_true] at hc) | skip)) | (refine And.intro (by first | decide | omega | (dsimp only; omega) | exact ⟨by assumption, by omega, by omega⟩ | exact u32r _) ?_) | (apply And.intro))
                        refine ⟨⟨3, upd L5 0 z, by omega, r5_hear hL5 (by omega) hnm (hFr 0 (by omega)) hz' hsd.1⟩, by show 5 - 3 < 5 - 2; omega, ?_, ?_⟩
                        · repeat' (first | exact trivial | exact rfl | exact leF_int rfl | exact leF_ptr rfl | exact leN_cells | refine leN_upd rfl ?_ | exact leC_slI (by assumption) | refine leF_int ?_ | refine leF_bool ?_ | refine leN_all ?_ | refine leC_int ?_ | refine leC_bool ?_ | apply And.intro)
                        · repeat' (first | exact trivial | exact rfl | exact leF_int rfl | exact leF_ptr rfl | exact leN_cells | refine leN_upd rfl ?_ | exact leC_slI (by assumption) | refine leF_int ?_ | refine leF_bool ?_ | refine leN_all ?_ | refine leC_int ?_ | refine leC_bool ?_ | apply And.intro)
                      | false =>
                        have hsd : ¬ (t = f0 ∧ F 2 = f0) := by simpa [hsn] using (hsd0 2 (by omega)).symm
                        repeat' (first | (apply And.intro <;> intro hc <;> (first | exact Bool.noConfusion hc | (exfalso; simp [hsn] at hc; done) | (simp only [ hsn, decide_eq_true_eq, decide_eq_false_iff_not, Bool.not_eq_true', Bool.not_eq_false', beq_iff_eq, beq_eq_false_iff_ne, bne_iff_ne, bne_eq_false_iff_eq, Bool.true_eq_false, Bool.false_eq_true, ne_eq, not_true_eq_false, not_false_eq_true] at hc <;> first | (exfalso; omega) | skip) | skip)) | (refine And.intro (by first | decide | omega | (dsimp only; omega) | exact ⟨by assumption, by omega, by omega⟩ | exact u32r _ | assumption) ?_) | (apply And.intro))
                        refine ⟨⟨3, L5, by omega, r5_same hL5 (fun _ => hsd)⟩, by show 5 - 3 < 5 - 2; omega, ?_, ?_⟩
                        · repeat' (first | exact trivial | exact rfl | exact leF_int rfl | exact leF_ptr rfl | exact leN_cells | refine leN_upd rfl ?_ | exact leC_slI (by assumption) | refine leF_int ?_ | refine leF_bool ?_ | refine leN_all ?_ | refine leC_int ?_ | refine leC_bool ?_ | apply And.intro)
                        · repeat' (first | exact trivial | exact rfl | exact leF_int rfl | exact leF_ptr rfl | exact leN_cells | refine leN_upd rfl ?_ | exact leC_slI (by assumption) | refine leF_int ?_ | refine leF_bool ?_ | refine leN_all ?_ | refine leC_int ?_ | refine leC_bool ?_ | apply And.intro)
                    · cases hsn : sd 3 with
                      | true =>
                        have hsd : t = f0 ∧ F 3 = f0 := by simpa [hsn] using (hsd0 3 (by omega)).symm
                        repeat' (first | (apply And.intro <;> intro hc <;> (first | exact Bool.noConfusion hc | (exfalso; simp [hsn] at hc; done) | (simp only [ hsn, decide_eq_true_eq, decide_eq_false_iff_not, Bool.not_eq_true', Bool.not_eq_false', beq_iff_eq, beq_eq_false_iff_ne, bne_iff_ne, bne_eq_false_iff_eq, Bool.true_eq_false, Bool.false_eq_true, ne_eq, not_true_eq_false, not_false_eq_true] at hc <;> first | (exfalso; omega) | skip) | skip)) | (refine And.intro (by first | decide | omega | (dsimp only; omega) | exact ⟨by assumption, by omega, by omega⟩ | exact u32r _ | assumption) ?_) | (apply And.intro))
                        intro z hz
                        have hz' : z = hearT (L5 0) := hz
                        clear hz
                        repeat' (first | (apply And.intro <;> intro hc <;> (first | exact Bool.noConfusion hc | (simp only [decide_eq_true_eq, decide_eq_false_iff_not, Bool.not_eq_true', Bool.not_eq_false', beq_iff_eq, beq_eq_false_iff_ne, bne_iff_ne, bne_eq_false_iff_eq, Bool.true_eq_false, Bool.false_eq_true] at hc) | skip)) | (refine And.intro (by first | decide | omega | (dsimp only; omega) | exact ⟨by assumption, by omega, by omega⟩ | exact u32r _) ?_) | (apply And.intro))
                        refine ⟨⟨4, upd L5 0 z, by omega, r5_hear hL5 (by omega) hnm (hFr 0 (by omega)) hz' hsd.1⟩, by show 5 - 4 < 5 - 3; omega, ?_, ?_⟩
                        · repeat' (first | exact trivial | exact rfl | exact leF_int rfl | exact leF_ptr rfl | exact leN_cells | refine leN_upd rfl ?_ | exact leC_slI (by assumption) | refine leF_int ?_ | refine leF_bool ?_ | refine leN_all ?_ | refine leC_int ?_ | refine leC_bool ?_ | apply And.intro)
                        · repeat' (first | exact trivial | exact rfl | exact leF_int rfl | exact leF_ptr rfl | exact leN_cells | refine leN_upd rfl ?_ | exact leC_slI (by assumption) | refine leF_int ?_ | refine leF_bool ?_ | refine leN_all ?_ | refine leC_int ?_ | refine leC_bool ?_ | apply And.intro)
                      | false =>
                        have hsd : ¬ (t = f0 ∧ F 3 = f0) := by simpa [hsn] using (hsd0 3 (by omega)).symm
                        repeat' (first | (apply And.intro <;> intro hc <;> (first | exact Bool.noConfusion hc | (exfalso; simp [hsn] at hc; done) | (simp only [ hsn, decide_eq_true_eq, decide_eq_false_iff_not, Bool.not_eq_true', Bool.not_eq_false', beq_iff_eq, beq_eq_false_iff_ne, bne_iff_ne, bne_eq_false_iff_eq, Bool.true_eq_false, Bool.false_eq_true, ne_eq, not_true_eq_false, not_false_eq_true] at hc <;> first | (exfalso; omega) | skip) | skip)) | (refine And.intro (by first | decide | omega | (dsimp only; omega) | exact ⟨by assumption, by omega, by omega⟩ | exact u32r _ | assumption) ?_) | (apply And.intro))
                        refine ⟨⟨4, L5, by omega, r5_same hL5 (fun _ => hsd)⟩, by show 5 - 4 < 5 - 3; omega, ?_, ?_⟩
                        · repeat' (first | exact trivial | exact rfl | exact leF_int rfl | exact leF_ptr rfl | exact leN_cells | refine leN_upd rfl ?_ | exact leC_slI (by assumption) | refine leF_int ?_ | refine leF_bool ?_ | refine leN_all ?_ | refine leC_int ?_ | refine leC_bool ?_ | apply And.intro)
                        · repeat' (first | exact trivial | exact rfl | exact leF_int rfl | exact leF_ptr rfl | exact leN_cells | refine leN_upd rfl ?_ | exact leC_slI (by assumption) | refine leF_int ?_ | refine leF_bool ?_ | refine leN_all ?_ | refine leC_int ?_ | refine leC_bool ?_ | apply And.intro)
                    · cases hsn : sd 4 with
                      | true =>
                        have hsd : t = f0 ∧ F 4 = f0 := by simpa [hsn] using (hsd0 4 (by omega)).symm
                        repeat' (first | (apply And.intro <;> intro hc <;> (first | exact Bool.noConfusion hc | (exfalso; simp [hsn] at hc; done) | (simp only [ hsn, decide_eq_true_eq, decide_eq_false_iff_not, Bool.not_eq_true', Bool.not_eq_false', beq_iff_eq, beq_eq_false_iff_ne, bne_iff_ne, bne_eq_false_iff_eq, Bool.true_eq_false, Bool.false_eq_true, ne_eq, not_true_eq_false, not_false_eq_true] at hc <;> first | (exfalso; omega) | skip) | skip)) | (refine And.intro (by first | decide | omega | (dsimp only; omega) | exact ⟨by assumption, by omega, by omega⟩ | exact u32r _ | assumption) ?_) | (apply And.intro))
                        intro z hz
                        have hz' : z = hearT (L5 0) := hz
                        clear hz
                        repeat' (first | (apply And.intro <;> intro hc <;> (first | exact Bool.noConfusion hc | (simp only [decide_eq_true_eq, decide_eq_false_iff_not, Bool.not_eq_true', Bool.not_eq_false', beq_iff_eq, beq_eq_false_iff_ne, bne_iff_ne, bne_eq_false_iff_eq, Bool.true_eq_false, Bool.false_eq_true] at hc) | skip)) | (refine And.intro (by first | decide | omega | (dsimp only; omega) | exact ⟨by assumption, by omega, by omega⟩ | exact u32r _) ?_) | (apply And.intro))
                        refine ⟨⟨5, upd L5 0 z, by omega, r5_hear hL5 (by omega) hnm (hFr 0 (by omega)) hz' hsd.1⟩, by show 5 - 5 < 5 - 4; omega, ?_, ?_⟩
                        · repeat' (first | exact trivial | exact rfl | exact leF_int rfl | exact leF_ptr rfl | exact leN_cells | refine leN_upd rfl ?_ | exact leC_slI (by assumption) | refine leF_int ?_ | refine leF_bool ?_ | refine leN_all ?_ | refine leC_int ?_ | refine leC_bool ?_ | apply And.intro)
                        · repeat' (first | exact trivial | exact rfl | exact leF_int rfl | exact leF_ptr rfl | exact leN_cells | refine leN_upd rfl ?_ | exact leC_slI (by assumption) | refine leF_int ?_ | refine leF_bool ?_ | refine leN_all ?_ | refine leC_int ?_ | refine leC_bool ?_ | apply And.intro)
                      | false =>
                        have hsd : ¬ (t = f0 ∧ F 4 = f0) := by simpa [hsn] using (hsd0 4 (by omega)).symm
                        repeat' (first | (apply And.intro <;> intro hc <;> (first | exact Bool.noConfusion hc | (exfalso; simp [hsn] at hc; done) | (simp only [ hsn, decide_eq_true_eq, decide_eq_false_iff_not, Bool.not_eq_true', Bool.not_eq_false', beq_iff_eq, beq_eq_false_iff_ne, bne_iff_ne, bne_eq_false_iff_eq, Bool.true_eq_false, Bool.false_eq_true, ne_eq, not_true_eq_false, not_false_eq_true] at hc <;> first | (exfalso; omega) | skip) | skip)) | (refine And.intro (by first | decide | omega | (dsimp only; omega) | exact ⟨by assumption, by omega, by omega⟩ | exact u32r _ | assumption) ?_) | (apply And.intro))
                        refine ⟨⟨5, L5, by omega, r5_same hL5 (fun _ => hsd)⟩, by show 5 - 5 < 5 - 4; omega, ?_, ?_⟩
                        · repeat' (first | exact trivial | exact rfl | exact leF_int rfl | exact leF_ptr rfl | exact leN_cells | refine leN_upd rfl ?_ | exact leC_slI (by assumption) | refine leF_int ?_ | refine leF_bool ?_ | refine leN_all ?_ | refine leC_int ?_ | refine leC_bool ?_ | apply And.intro)
                        · repeat' (first | exact trivial | exact rfl | exact leF_int rfl | exact leF_ptr rfl | exact leN_cells | refine leN_upd rfl ?_ | exact leC_slI (by assumption) | refine leF_int ?_ | refine leF_bool ?_ | refine leN_all ?_ | refine leC_int ?_ | refine leC_bool ?_ | apply And.intro)
                    · repeat' (first | (apply And.intro <;> intro hc <;> (first | exact Bool.noConfusion hc | (simp only [decide_eq_true_eq, decide_eq_false_iff_not, Bool.not_eq_true', Bool.not_eq_false', beq_iff_eq, beq_eq_false_iff_ne, bne_iff_ne, bne_eq_false_iff_eq, Bool.true_eq_false, Bool.false_eq_true] at hc) | skip)) | (refine And.intro (by first | decide | omega | (dsimp only; omega) | exact ⟨by assumption, by omega, by omega⟩ | exact u32r _) ?_) | (apply And.intro))
                      refine ⟨⟨1, L5, by omega, r5_end hL5⟩, by show 5 - 1 < 5 - 0; omega, ?_, ?_⟩
                      · repeat' (first | exact trivial | exact rfl | exact leF_int rfl | exact leF_ptr rfl | exact leN_cells | refine leN_upd rfl ?_ | exact leC_slI (by assumption) | refine leF_int ?_ | refine leF_bool ?_ | refine leN_all ?_ | refine leC_int ?_ | refine leC_bool ?_ | apply And.intro)
                      · repeat' (first | exact trivial | exact rfl | exact leF_int rfl | exact leF_ptr rfl | exact leN_cells | refine leN_upd rfl ?_ | exact leC_slI (by assumption) | refine leF_int ?_ | refine leF_bool ?_ | refine leN_all ?_ | refine leC_int ?_ | refine leC_bool ?_ | apply And.intro)
                  · repeat' (first | exact trivial | exact rfl | exact leF_int rfl | exact leF_ptr rfl | exact leN_cells | refine leN_upd rfl ?_ | exact leC_slI (by assumption) | refine leF_int ?_ | refine leF_bool ?_ | refine leN_all ?_ | refine leC_int ?_ | refine leC_bool ?_ | apply And.intro)
                  · repeat' (first | exact trivial | exact rfl | exact leF_int rfl | exact leF_ptr rfl | exact leN_cells | refine leN_upd rfl ?_ | exact leC_slI (by assumption) | refine leF_int ?_ | refine leF_bool ?_ | refine leN_all ?_ | refine leC_int ?_ | refine leC_bool ?_ | apply And.intro)
                · repeat' (first | (apply And.intro <;> intro hc <;> (first | exact Bool.noConfusion hc | (simp only [decide_eq_true_eq, decide_eq_false_iff_not, Bool.not_eq_true', Bool.not_eq_false', beq_iff_eq, beq_eq_false_iff_ne, bne_iff_ne, bne_eq_false_iff_eq, Bool.true_eq_false, Bool.false_eq_true] at hc) | skip)) | (refine And.intro (by first | decide | omega | (dsimp only; omega) | exact ⟨by assumption, by omega, by omega⟩ | exact u32r _) ?_) | (apply And.intro))
                  refine loop_intro (mono_of L4_ok) (σ := S5 n m f0 t F 1) (fun s => ⟨[(1, .e (.c (.int .i64 n))), (2, .e (.c (.int .i64 m))), (7, one (.ptr 9 0)), (8, .e (.c (.int .i64 f0))), (12, .e (.c (.int .i64 t))), (13, one (.ptr 17 0)), (18, .e (.c (.int .i64 1))), (19, .e (.c (.int .i64 s.j)))], [(9, some ⟨40, 40, cellsL s.L⟩), (17, some ⟨41, 5, fun c => .bool (sd c)⟩)], 19⟩) (fun s => 5 - s.j) (fun _ => rfl) ?_ ⟨0, L4', by omega, s5_init hL4⟩ ?_ ?_
                  · rintro ⟨j, L5, hj5, hL5⟩
                    dsimp only
                    rcases (show j = 0 ∨ j = 1 ∨ j = 2 ∨ j = 3 ∨ j = 4 ∨ j = 5 by omega) with rfl | rfl | rfl | rfl | rfl | rfl
                    · cases hsn : sd 0 with
                      | true =>
                        have hsd : t = f0 ∧ F 0 = f0 := by simpa [hsn] using (hsd0 0 (by omega)).symm
                        repeat' (first | (apply And.intro <;> intro hc <;> (first | exact Bool.noConfusion hc | (exfalso; simp [hsn] at hc; done) | (simp only [ hsn, decide_eq_true_eq, decide_eq_false_iff_not, Bool.not_eq_true', Bool.not_eq_false', beq_iff_eq, beq_eq_false_iff_ne, bne_iff_ne, bne_eq_false_iff_eq, Bool.true_eq_false, Bool.false_eq_true, ne_eq, not_true_eq_false, not_false_eq_true] at hc <;> first | (exfalso; omega) | skip) | skip)) | (refine And.intro (by first | decide | omega | (dsimp only; omega) | exact ⟨by assumption, by omega, by omega⟩ | exact u32r _ | assumption) ?_) | (apply And.intro))
                        intro z hz
                        have hz' : z = hearT (L5 1) := hz
                        clear hz
                        repeat' (first | (apply And.intro <;> intro hc <;> (first | exact Bool.noConfusion hc | (simp only [decide_eq_true_eq, decide_eq_false_iff_not, Bool.not_eq_true', Bool.not_eq_false', beq_iff_eq, beq_eq_false_iff_ne, bne_iff_ne, bne_eq_false_iff_eq, Bool.true_eq_false, Bool.false_eq_true] at hc) | skip)) | (refine And.intro (by first | decide | omega | (dsimp only; omega) | exact ⟨by assumption, by omega, by omega⟩ | exact u32r _) ?_) | (apply And.intro))
                        refine ⟨⟨1, upd L5 1 z, by omega, r5_hear hL5 (by omega) hnm (hFr 1 (by omega)) hz' hsd.1⟩, by show 5 - 1 < 5 - 0; omega, ?_, ?_⟩
                        · repeat' (first | exact trivial | exact rfl | exact leF_int rfl | exact leF_ptr rfl | exact leN_cells | refine leN_upd rfl ?_ | exact leC_slI (by assumption) | refine leF_int ?_ | refine leF_bool ?_ | refine leN_all ?_ | refine leC_int ?_ | refine leC_bool ?_ | apply And.intro)
                        · repeat' (first | exact trivial | exact rfl | exact leF_int rfl | exact leF_ptr rfl | exact leN_cells | refine leN_upd rfl ?_ | exact leC_slI (by assumption) | refine leF_int ?_ | refine leF_bool ?_ | refine leN_all ?_ | refine leC_int ?_ | refine leC_bool ?_ | apply And.intro)
                      | false =>
                        have hsd : ¬ (t = f0 ∧ F 0 = f0) := by simpa [hsn] using (hsd0 0 (by omega)).symm
                        repeat' (first | (apply And.intro <;> intro hc <;> (first | exact Bool.noConfusion hc | (exfalso; simp [hsn] at hc; done) | (simp only [ hsn, decide_eq_true_eq, decide_eq_false_iff_not, Bool.not_eq_true', Bool.not_eq_false', beq_iff_eq, beq_eq_false_iff_ne, bne_iff_ne, bne_eq_false_iff_eq, Bool.true_eq_false, Bool.false_eq_true, ne_eq, not_true_eq_false, not_false_eq_true] at hc <;> first | (exfalso; omega) | skip) | skip)) | (refine And.intro (by first | decide | omega | (dsimp only; omega) | exact ⟨by assumption, by omega, by omega⟩ | exact u32r _ | assumption) ?_) | (apply And.intro))
                        refine ⟨⟨1, L5, by omega, r5_same hL5 (fun _ => hsd)⟩, by show 5 - 1 < 5 - 0; omega, ?_, ?_⟩
                        · repeat' (first | exact trivial | exact rfl | exact leF_int rfl | exact leF_ptr rfl | exact leN_cells | refine leN_upd rfl ?_ | exact leC_slI (by assumption) | refine leF_int ?_ | refine leF_bool ?_ | refine leN_all ?_ | refine leC_int ?_ | refine leC_bool ?_ | apply And.intro)
                        · repeat' (first | exact trivial | exact rfl | exact leF_int rfl | exact leF_ptr rfl | exact leN_cells | refine leN_upd rfl ?_ | exact leC_slI (by assumption) | refine leF_int ?_ | refine leF_bool ?_ | refine leN_all ?_ | refine leC_int ?_ | refine leC_bool ?_ | apply And.intro)
                    · cases hsn : sd 1 with
                      | true =>
                        have hsd : t = f0 ∧ F 1 = f0 := by simpa [hsn] using (hsd0 1 (by omega)).symm
                        repeat' (first | (apply And.intro <;> intro hc <;> (first | exact Bool.noConfusion hc | (exfalso; simp [hsn] at hc; done) | (simp only [ hsn, decide_eq_true_eq, decide_eq_false_iff_not, Bool.not_eq_true', Bool.not_eq_false', beq_iff_eq, beq_eq_false_iff_ne, bne_iff_ne, bne_eq_false_iff_eq, Bool.true_eq_false, Bool.false_eq_true, ne_eq, not_true_eq_false, not_false_eq_true] at hc <;> first | (exfalso; omega) | skip) | skip)) | (refine And.intro (by first | decide | omega | (dsimp only; omega) | exact ⟨by assumption, by omega, by omega⟩ | exact u32r _ | assumption) ?_) | (apply And.intro))
                        refine ⟨⟨2, L5, by omega, r5_same hL5 (fun h => absurd rfl h)⟩, by show 5 - 2 < 5 - 1; omega, ?_, ?_⟩
                        · repeat' (first | exact trivial | exact rfl | exact leF_int rfl | exact leF_ptr rfl | exact leN_cells | refine leN_upd rfl ?_ | exact leC_slI (by assumption) | refine leF_int ?_ | refine leF_bool ?_ | refine leN_all ?_ | refine leC_int ?_ | refine leC_bool ?_ | apply And.intro)
                        · repeat' (first | exact trivial | exact rfl | exact leF_int rfl | exact leF_ptr rfl | exact leN_cells | refine leN_upd rfl ?_ | exact leC_slI (by assumption) | refine leF_int ?_ | refine leF_bool ?_ | refine leN_all ?_ | refine leC_int ?_ | refine leC_bool ?_ | apply And.intro)
                      | false =>
                        have hsd : ¬ (t = f0 ∧ F 1 = f0) := by simpa [hsn] using (hsd0 1 (by omega)).symm
                        repeat' (first | (apply And.intro <;> intro hc <;> (first | exact Bool.noConfusion hc | (exfalso; simp [hsn] at hc; done) | (simp only [ hsn, decide_eq_true_eq, decide_eq_false_iff_not, Bool.not_eq_true', Bool.not_eq_false', beq_iff_eq, beq_eq_false_iff_ne, bne_iff_ne, bne_eq_false_iff_eq, Bool.true_eq_false, Bool.false_eq_true, ne_eq, not_true_eq_false, not_false_eq_true] at hc <;> first | (exfalso; omega) | skip) | skip)) | (refine And.intro (by first | decide | omega | (dsimp only; omega) | exact ⟨by assumption, by omega, by omega⟩ | exact u32r _ | assumption) ?_) | (apply And.intro))
                        refine ⟨⟨2, L5, by omega, r5_same hL5 (fun _ => hsd)⟩, by show 5 - 2 < 5 - 1; omega, ?_, ?_⟩
                        · repeat' (first | exact trivial | exact rfl | exact leF_int rfl | exact leF_ptr rfl | exact leN_cells | refine leN_upd rfl ?_ | exact leC_slI (by assumption) | refine leF_int ?_ | refine leF_bool ?_ | refine leN_all ?_ | refine leC_int ?_ | refine leC_bool ?_ | apply And.intro)
                        · repeat' (first | exact trivial | exact rfl | exact leF_int rfl | exact leF_ptr rfl | exact leN_cells | refine leN_upd rfl ?_ | exact leC_slI (by assumption) | refine leF_int ?_ | refine leF_bool ?_ | refine leN_all ?_ | refine leC_int ?_ | refine leC_bool ?_ | apply And.intro)
                    · cases hsn : sd 2 with
                      | true =>
                        have hsd : t = f0 ∧ F 2 = f0 := by simpa [hsn] using (hsd0 2 (by omega)).symm
                        repeat' (first | (apply And.intro <;> intro hc <;> (first | exact Bool.noConfusion hc | (exfalso; simp [hsn] at hc; done) | (simp only [ hsn, decide_eq_true_eq, decide_eq_false_iff_not, Bool.not_eq_true', Bool.not_eq_false', beq_iff_eq, beq_eq_false_iff_ne, bne_iff_ne, bne_eq_false_iff_eq, Bool.true_eq_false, Bool.false_eq_true, ne_eq, not_true_eq_false, not_false_eq_true] at hc <;> first | (exfalso; omega) | skip) | skip)) | (refine And.intro (by first | decide | omega | (dsimp only; omega) | exact ⟨by assumption, by omega, by omega⟩ | exact u32r _ | assumption) ?_) | (apply And.intro))
                        intro z hz
                        have hz' : z = hearT (L5 1) := hz
                        clear hz
                        repeat' (first | (apply And.intro <;> intro hc <;> (first | exact Bool.noConfusion hc | (simp only [decide_eq_true_eq, decide_eq_false_iff_not, Bool.not_eq_true', Bool.not_eq_false', beq_iff_eq, beq_eq_false_iff_ne, bne_iff_ne, bne_eq_false_iff_eq, Bool.true_eq_false, Bool.false_eq_true] at hc) | skip)) | (refine And.intro (by first | decide | omega | (dsimp only; omega) | exact ⟨by assumption, by omega, by omega⟩ | exact u32r _) ?_) | (apply And.intro))
                        refine ⟨⟨3, upd L5 1 z, by omega, r5_hear hL5 (by omega) hnm (hFr 1 (by omega)) hz' hsd.1⟩, by show 5 - 3 < 5 - 2; omega, ?_, ?_⟩
                        · repeat' (first | exact trivial | exact rfl | exact leF_int rfl | exact leF_ptr rfl | exact leN_cells | refine leN_upd rfl ?_ | exact leC_slI (by assumption) | refine leF_int ?_ | refine leF_bool ?_ | refine leN_all ?_ | refine leC_int ?_ | refine leC_bool ?_ | apply And.intro)
                        · repeat' (first | exact trivial | exact rfl | exact leF_int rfl | exact leF_ptr rfl | exact leN_cells | refine leN_upd rfl ?_ | exact leC_slI (by assumption) | refine leF_int ?_ | refine leF_bool ?_ | refine leN_all ?_ | refine leC_int ?_ | refine leC_bool ?_ | apply And.intro)
                      | false =>
                        have hsd : ¬ (t = f0 ∧ F 2 = f0) := by simpa [hsn] using (hsd0 2 (by omega)).symm
                        repeat' (first | (apply And.intro <;> intro hc <;> (first | exact Bool.noConfusion hc | (exfalso; simp [hsn] at hc; done) | (simp only [ hsn, decide_eq_true_eq, decide_eq_false_iff_not, Bool.not_eq_true', Bool.not_eq_false', beq_iff_eq, beq_eq_false_iff_ne, bne_iff_ne, bne_eq_false_iff_eq, Bool.true_eq_false, Bool.false_eq_true, ne_eq, not_true_eq_false, not_false_eq_true] at hc <;> first | (exfalso; omega) | skip) | skip)) | (refine And.intro (by first | decide | omega | (dsimp only; omega) | exact ⟨by assumption, by omega, by omega⟩ | exact u32r _ | assumption) ?_) | (apply And.intro))
                        refine ⟨⟨3, L5, by omega, r5_same hL5 (fun _ => hsd)⟩, by show 5 - 3 < 5 - 2; omega, ?_, ?_⟩
                        · repeat' (first | exact trivial | exact rfl | exact leF_int rfl | exact leF_ptr rfl | exact leN_cells | refine leN_upd rfl ?_ | exact leC_slI (by assumption) | refine leF_int ?_ | refine leF_bool ?_ | refine leN_all ?_ | refine leC_int ?_ | refine leC_bool ?_ | apply And.intro)
                        · repeat' (first | exact trivial | exact rfl | exact leF_int rfl | exact leF_ptr rfl | exact leN_cells | refine leN_upd rfl ?_ | exact leC_slI (by assumption) | refine leF_int ?_ | refine leF_bool ?_ | refine leN_all ?_ | refine leC_int ?_ | refine leC_bool ?_ | apply And.intro)
                    · cases hsn : sd 3 with
                      | true =>
                        have hsd : t = f0 ∧ F 3 = f0 := by simpa [hsn] using (hsd0 3 (by omega)).symm
                        repeat' (first | (apply And.intro <;> intro hc <;> (first | exact Bool.noConfusion hc | (exfalso; simp [hsn] at hc; done) | (simp only [ hsn, decide_eq_true_eq, decide_eq_false_iff_not, Bool.not_eq_true', Bool.not_eq_false', beq_iff_eq, beq_eq_false_iff_ne, bne_iff_ne, bne_eq_false_iff_eq, Bool.true_eq_false, Bool.false_eq_true, ne_eq, not_true_eq_false, not_false_eq_true] at hc <;> first | (exfalso; omega) | skip) | skip)) | (refine And.intro (by first | decide | omega | (dsimp only; omega) | exact ⟨by assumption, by omega, by omega⟩ | exact u32r _ | assumption) ?_) | (apply And.intro))
                        intro z hz
                        have hz' : z = hearT (L5 1) := hz
                        clear hz
                        repeat' (first | (apply And.intro <;> intro hc <;> (first | exact Bool.noConfusion hc | (simp only [decide_eq_true_eq, decide_eq_false_iff_not, Bool.not_eq_true', Bool.not_eq_false', beq_iff_eq, beq_eq_false_iff_ne, bne_iff_ne, bne_eq_false_iff_eq, Bool.true_eq_false, Bool.false_eq_true] at hc) | skip)) | (refine And.intro (by first | decide | omega | (dsimp only; omega) | exact ⟨by assumption, by omega, by omega⟩ | exact u32r _) ?_) | (apply And.intro))
                        refine ⟨⟨4, upd L5 1 z, by omega, r5_hear hL5 (by omega) hnm (hFr 1 (by omega)) hz' hsd.1⟩, by show 5 - 4 < 5 - 3; omega, ?_, ?_⟩
                        · repeat' (first | exact trivial | exact rfl | exact leF_int rfl | exact leF_ptr rfl | exact leN_cells | refine leN_upd rfl ?_ | exact leC_slI (by assumption) | refine leF_int ?_ | refine leF_bool ?_ | refine leN_all ?_ | refine leC_int ?_ | refine leC_bool ?_ | apply And.intro)
                        · repeat' (first | exact trivial | exact rfl | exact leF_int rfl | exact leF_ptr rfl | exact leN_cells | refine leN_upd rfl ?_ | exact leC_slI (by assumption) | refine leF_int ?_ | refine leF_bool ?_ | refine leN_all ?_ | refine leC_int ?_ | refine leC_bool ?_ | apply And.intro)
                      | false =>
                        have hsd : ¬ (t = f0 ∧ F 3 = f0) := by simpa [hsn] using (hsd0 3 (by omega)).symm
                        repeat' (first | (apply And.intro <;> intro hc <;> (first | exact Bool.noConfusion hc | (exfalso; simp [hsn] at hc; done) | (simp only [ hsn, decide_eq_true_eq, decide_eq_false_iff_not, Bool.not_eq_true', Bool.not_eq_false', beq_iff_eq, beq_eq_false_iff_ne, bne_iff_ne, bne_eq_false_iff_eq, Bool.true_eq_false, Bool.false_eq_true, ne_eq, not_true_eq_false, not_false_eq_true] at hc <;> first | (exfalso; omega) | skip) | skip)) | (refine And.intro (by first | decide | omega | (dsimp only; omega) | exact ⟨by assumption, by omega, by omega⟩ | exact u32r _ | assumption) ?_) | (apply And.intro))
                        refine ⟨⟨4, L5, by omega, r5_same hL5 (fun _ => hsd)⟩, by show 5 - 4 < 5 - 3; omega, ?_, ?_⟩
                        · repeat' (first | exact trivial | exact rfl | exact leF_int rfl | exact leF_ptr rfl | exact leN_cells | refine leN_upd rfl ?_ | exact leC_slI (by assumption) | refine leF_int ?_ | refine leF_bool ?_ | refine leN_all ?_ | refine leC_int ?_ | refine leC_bool ?_ | apply And.intro)
                        · repeat' (first | exact trivial | exact rfl | exact leF_int rfl | exact leF_ptr rfl | exact leN_cells | refine leN_upd rfl ?_ | exact leC_slI (by assumption) | refine leF_int ?_ | refine leF_bool ?_ | refine leN_all ?_ | refine leC_int ?_ | refine leC_bool ?_ | apply And.intro)
                    · cases hsn : sd 4 with
                      | true =>
                        have hsd : t = f0 ∧ F 4 = f0 := by simpa [hsn] using (hsd0 4 (by omega)).symm
                        repeat' (first | (apply And.intro <;> intro hc <;> (first | exact Bool.noConfusion hc | (exfalso; simp [hsn] at hc; done) | (simp only [ hsn, decide_eq_true_eq, decide_eq_false_iff_not, Bool.not_eq_true', Bool.not_eq_false', beq_iff_eq, beq_eq_false_iff_ne, bne_iff_ne, bne_eq_false_iff_eq, Bool.true_eq_false, Bool.false_eq_true, ne_eq, not_true_eq_false, not_false_eq_true] at hc <;> first | (exfalso; omega) | skip) | skip)) | (refine And.intro (by first | decide | omega | (dsimp only; omega) | exact ⟨by assumption, by omega, by omega⟩ | exact u32r _ | assumption) ?_) | (apply And.intro))
                        intro z hz
                        have hz' : z = hearT (L5 1) := hz
                        clear hz
                        repeat' (first | (apply And.intro <;> intro hc <;> (first | exact Bool.noConfusion hc | (simp only [decide_eq_true_eq, decide_eq_false_iff_not, Bool.not_eq_true', Bool.not_eq_false', beq_iff_eq, beq_eq_false_iff_ne, bne_iff_ne, bne_eq_false_iff_eq, Bool.true_eq_false, Bool.false_eq_true] at hc) | skip)) | (refine And.intro (by first | decide | omega | (dsimp only; omega) | exact ⟨by assumption, by omega, by omega⟩ | exact u32r _) ?_) | (apply And.intro))
                        refine ⟨⟨5, upd L5 1 z, by omega, r5_hear hL5 (by omega) hnm (hFr 1 (by omega)) hz' hsd.1⟩, by show 5 - 5 < 5 - 4; omega, ?_, ?_⟩
                        · repeat' (first | exact trivial | exact rfl | exact leF_int rfl | exact leF_ptr rfl | exact leN_cells | refine leN_upd rfl ?_ | exact leC_slI (by assumption) | refine leF_int ?_ | refine leF_bool ?_ | refine leN_all ?_ | refine leC_int ?_ | refine leC_bool ?_ | apply And.intro)
                        · repeat' (first | exact trivial | exact rfl | exact leF_int rfl | exact leF_ptr rfl | exact leN_cells | refine leN_upd rfl ?_ | exact leC_slI (by assumption) | refine leF_int ?_ | refine leF_bool ?_ | refine leN_all ?_ | refine leC_int ?_ | refine leC_bool ?_ | apply And.intro)
                      | false =>
                        have hsd : ¬ (t = f0 ∧ F 4 = f0) := by simpa [hsn] using (hsd0 4 (by omega)).symm
                        repeat' (first | (apply And.intro <;> intro hc <;> (first | exact Bool.noConfusion hc | (exfalso; simp [hsn] at hc; done) | (simp only [ hsn, decide_eq_true_eq, decide_eq_false_iff_not, Bool.not_eq_true', Bool.not_eq_false', beq_iff_eq, beq_eq_false_iff_ne, bne_iff_ne, bne_eq_false_iff_eq, Bool.true_eq_false, Bool.false_eq_true, ne_eq, not_true_eq_false, not_false_eq_true] at hc <;> first | (exfalso; omega) | skip) | skip)) | (refine And.intro (by first | decide | omega | (dsimp only; omega) | exact ⟨by assumption, by omega, by omega⟩ | exact u32r _ | assumption) ?_) | (apply And.intro))
                        refine ⟨⟨5, L5, by omega, r5_same hL5 (fun _ => hsd)⟩, by show 5 - 5 < 5 - 4; omega, ?_, ?_⟩
                        · repeat' (first | exact trivial | exact rfl | exact leF_int rfl | exact leF_ptr rfl | exact leN_cells | refine leN_upd rfl ?_ | exact leC_slI (by assumption) | refine leF_int ?_ | refine leF_bool ?_ | refine leN_all ?_ | refine leC_int ?_ | refine leC_bool ?_ | apply And.intro)
                        · repeat' (first | exact trivial | exact rfl | exact leF_int rfl | exact leF_ptr rfl | exact leN_cells | refine leN_upd rfl ?_ | exact leC_slI (by assumption) | refine leF_int ?_ | refine leF_bool ?_ | refine leN_all ?_ | refine leC_int ?_ | refine leC_bool ?_ | apply And.intro)
                    · repeat' (first | (apply And.intro <;> intro hc <;> (first | exact Bool.noConfusion hc | (simp only [decide_eq_true_eq, decide_eq_false_iff_not, Bool.not_eq_true', Bool.not_eq_false', beq_iff_eq, beq_eq_false_iff_ne, bne_iff_ne, bne_eq_false_iff_eq, Bool.true_eq_false, Bool.false_eq_true] at hc) | skip)) | (refine And.intro (by first | decide | omega | (dsimp only; omega) | exact ⟨by assumption, by omega, by omega⟩ | exact u32r _) ?_) | (apply And.intro))
                      refine ⟨⟨2, L5, by omega, r5_end hL5⟩, by show 5 - 2 < 5 - 1; omega, ?_, ?_⟩
                      · repeat' (first | exact trivial | exact rfl | exact leF_int rfl | exact leF_ptr rfl | exact leN_cells | refine leN_upd rfl ?_ | exact leC_slI (by assumption) | refine leF_int ?_ | refine leF_bool ?_ | refine leN_all ?_ | refine leC_int ?_ | refine leC_bool ?_ | apply And.intro)
                      · repeat' (first | exact trivial | exact rfl | exact leF_int rfl | exact leF_ptr rfl | exact leN_cells | refine leN_upd rfl ?_ | exact leC_slI (by assumption) | refine leF_int ?_ | refine leF_bool ?_ | refine leN_all ?_ | refine leC_int ?_ | refine leC_bool ?_ | apply And.intro)
                  · repeat' (first | exact trivial | exact rfl | exact leF_int rfl | exact leF_ptr rfl | exact leN_cells | refine leN_upd rfl ?_ | exact leC_slI (by assumption) | refine leF_int ?_ | refine leF_bool ?_ | refine leN_all ?_ | refine leC_int ?_ | refine leC_bool ?_ | apply And.intro)
                  · repeat' (first | exact trivial | exact rfl | exact leF_int rfl | exact leF_ptr rfl | exact leN_cells | refine leN_upd rfl ?_ | exact leC_slI (by assumption) | refine leF_int ?_ | refine leF_bool ?_ | refine leN_all ?_ | refine leC_int ?_ | refine leC_bool ?_ | apply And.intro)
                · repeat' (first | (apply And.intro <;> intro hc <;> (first | exact Bool.noConfusion hc | (simp only [decide_eq_true_eq, decide_eq_false_iff_not, Bool.not_eq_true', Bool.not_eq_false', beq_iff_eq, beq_eq_false_iff_ne, bne_iff_ne, bne_eq_false_iff_eq, Bool.true_eq_false, Bool.false_eq_true] at hc) | skip)) | (refine And.intro (by first | decide | omega | (dsimp only; omega) | exact ⟨by assumption, by omega, by omega⟩ | exact u32r _) ?_) | (apply And.intro))
                  refine loop_intro (mono_of L4_ok) (σ := S5 n m f0 t F 2) (fun s => ⟨[(1, .e (.c (.int .i64 n))), (2, .e (.c (.int .i64 m))), (7, one (.ptr 9 0)), (8, .e (.c (.int .i64 f0))), (12, .e (.c (.int .i64 t))), (13, one (.ptr 17 0)), (18, .e (.c (.int .i64 2))), (19, .e (.c (.int .i64 s.j)))], [(9, some ⟨40, 40, cellsL s.L⟩), (17, some ⟨41, 5, fun c => .bool (sd c)⟩)], 19⟩) (fun s => 5 - s.j) (fun _ => rfl) ?_ ⟨0, L4', by omega, s5_init hL4⟩ ?_ ?_
                  · rintro ⟨j, L5, hj5, hL5⟩
                    dsimp only
                    rcases (show j = 0 ∨ j = 1 ∨ j = 2 ∨ j = 3 ∨ j = 4 ∨ j = 5 by omega) with rfl | rfl | rfl | rfl | rfl | rfl
                    · cases hsn : sd 0 with
                      | true =>
                        have hsd : t = f0 ∧ F 0 = f0 := by simpa [hsn] using (hsd0 0 (by omega)).symm
                        repeat' (first | (apply And.intro <;> intro hc <;> (first | exact Bool.noConfusion hc | (exfalso; simp [hsn] at hc; done) | (simp only [ hsn, decide_eq_true_eq, decide_eq_false_iff_not, Bool.not_eq_true', Bool.not_eq_false', beq_iff_eq, beq_eq_false_iff_ne, bne_iff_ne, bne_eq_false_iff_eq, Bool.true_eq_false, Bool.false_eq_true, ne_eq, not_true_eq_false, not_false_eq_true] at hc <;> first | (exfalso; omega) | skip) | skip)) | (refine And.intro (by first | decide | omega | (dsimp only; omega) | exact ⟨by assumption, by omega, by omega⟩ | exact u32r _ | assumption) ?_) | (apply And.intro))
                        intro z hz
                        have hz' : z = hearT (L5 2) := hz
                        clear hz
                        repeat' (first | (apply And.intro <;> intro hc <;> (first | exact Bool.noConfusion hc | (simp only [decide_eq_true_eq, decide_eq_false_iff_not, Bool.not_eq_true', Bool.not_eq_false', beq_iff_eq, beq_eq_false_iff_ne, bne_iff_ne, bne_eq_false_iff_eq, Bool.true_eq_false, Bool.false_eq_true] at hc) | skip)) | (refine And.intro (by first | decide | omega | (dsimp only; omega) | exact ⟨by assumption, by omega, by omega⟩ | exact u32r _) ?_) | (apply And.intro))
                        refine ⟨⟨1, upd L5 2 z, by omega, r5_hear hL5 (by omega) hnm (hFr 2 (by omega)) hz' hsd.1⟩, by show 5 - 1 < 5 - 0; omega, ?_, ?_⟩
                        · repeat' (first | exact trivial | exact rfl | exact leF_int rfl | exact leF_ptr rfl | exact leN_cells | refine leN_upd rfl ?_ | exact leC_slI (by assumption) | refine leF_int ?_ | refine leF_bool ?_ | refine leN_all ?_ | refine leC_int ?_ | refine leC_bool ?_ | apply And.intro)
                        · repeat' (first | exact trivial | exact rfl | exact leF_int rfl | exact leF_ptr rfl | exact leN_cells | refine leN_upd rfl ?_ | exact leC_slI (by assumption) | refine leF_int ?_ | refine leF_bool ?_ | refine leN_all ?_ | refine leC_int ?_ | refine leC_bool ?_ | apply And.intro)
                      | false =>
                        have hsd : ¬ (t = f0 ∧ F 0 = f0) := by simpa [hsn] using (hsd0 0 (by omega)).symm
                        repeat' (first | (apply And.intro <;> intro hc <;> (first | exact Bool.noConfusion hc | (exfalso; simp [hsn] at hc; done) | (simp only [ hsn, decide_eq_true_eq, decide_eq_false_iff_not, Bool.not_eq_true', Bool.not_eq_false', beq_iff_eq, beq_eq_false_iff_ne, bne_iff_ne, bne_eq_false_iff_eq, Bool.true_eq_false, Bool.false_eq_true, ne_eq, not_true_eq_false, not_false_eq_true] at hc <;> first | (exfalso; omega) | skip) | skip)) | (refine And.intro (by first | decide | omega | (dsimp only; omega) | exact ⟨by assumption, by omega, by omega⟩ | exact u32r _ | assumption) ?_) | (apply And.intro))
                        refine ⟨⟨1, L5, by omega, r5_same hL5 (fun _ => hsd)⟩, by show 5 - 1 < 5 - 0; omega, ?_, ?_⟩
                        · repeat' (first | exact trivial | exact rfl | exact leF_int rfl | exact leF_ptr rfl | exact leN_cells | refine leN_upd rfl ?_ | exact leC_slI (by assumption) | refine leF_int ?_ | refine leF_bool ?_ | refine leN_all ?_ | refine leC_int ?_ | refine leC_bool ?_ | apply And.intro)
                        · repeat' (first | exact trivial | exact rfl | exact leF_int rfl | exact leF_ptr rfl | exact leN_cells | refine leN_upd rfl ?_ | exact leC_slI (by assumption) | refine leF_int ?_ | refine leF_bool ?_ | refine leN_all ?_ | refine leC_int ?_ | refine leC_bool ?_ | apply And.intro)
                    · cases hsn : sd 1 with
                      | true =>
                        have hsd : t = f0 ∧ F 1 = f0 := by simpa [hsn] using (hsd0 1 (by omega)).symm
                        repeat' (first | (apply And.intro <;> intro hc <;> (first | exact Bool.noConfusion hc | (exfalso; simp [hsn] at hc; done) | (simp only [ hsn, decide_eq_true_eq, decide_eq_false_iff_not, Bool.not_eq_true', Bool.not_eq_false', beq_iff_eq, beq_eq_false_iff_ne, bne_iff_ne, bne_eq_false_iff_eq, Bool.true_eq_false, Bool.false_eq_true, ne_eq, not_true_eq_false, not_false_eq_true] at hc <;> first | (exfalso; omega) | skip) | skip)) | (refine And.intro (by first | decide | omega | (dsimp only; omega) | exact ⟨by assumption, by omega, by omega⟩ | exact u32r _ | assumption) ?_) | (apply And.intro))
                        intro z hz
                        have hz' : z = hearT (L5 2) := hz
                        clear hz
                        repeat' (first | (apply And.intro <;> intro hc <;> (first | exact Bool.noConfusion hc | (simp only [decide_eq_true_eq, decide_eq_false_iff_not, Bool.not_eq_true', Bool.not_eq_false', beq_iff_eq, beq_eq_false_iff_ne, bne_iff_ne, bne_eq_false_iff_eq, Bool.true_eq_false, Bool.false_eq_true] at hc) | skip)) | (refine And.intro (by first | decide | omega | (dsimp only; omega) | exact ⟨by assumption, by omega, by omega⟩ | exact u32r _) ?_) | (apply And.intro))
                        refine ⟨⟨2, upd L5 2 z, by omega, r5_hear hL5 (by omega) hnm (hFr 2 (by omega)) hz' hsd.1⟩, by show 5 - 2 < 5 - 1; omega, ?_, ?_⟩
                        · repeat' (first | exact trivial | exact rfl | exact leF_int rfl | exact leF_ptr rfl | exact leN_cells | refine leN_upd rfl ?_ | exact leC_slI (by assumption) | refine leF_int ?_ | refine leF_bool ?_ | refine leN_all ?_ | refine leC_int ?_ | refine leC_bool ?_ | apply And.intro)
                        · repeat' (first | exact trivial | exact rfl | exact leF_int rfl | exact leF_ptr rfl | exact leN_cells | refine leN_upd rfl ?_ | exact leC_slI (by assumption) | refine leF_int ?_ | refine leF_bool ?_ | refine leN_all ?_ | refine leC_int ?_ | refine leC_bool ?_ | apply And.intro)
                      | false =>
                        have hsd : ¬ (t = f0 ∧ F 1 = f0) := by simpa [hsn] using (hsd0 1 (by omega)).symm
                        repeat' (first | (apply And.intro <;> intro hc <;> (first | exact Bool.noConfusion hc | (exfalso; simp [hsn] at hc; done) | (simp only [ hsn, decide_eq_true_eq, decide_eq_false_iff_not, Bool.not_eq_true', Bool.not_eq_false', beq_iff_eq, beq_eq_false_iff_ne, bne_iff_ne, bne_eq_false_iff_eq, Bool.true_eq_false, Bool.false_eq_true, ne_eq, not_true_eq_false, not_false_eq_true] at hc <;> first | (exfalso; omega) | skip) | skip)) | (refine And.intro (by first | decide | omega | (dsimp only; omega) | exact ⟨by assumption, by omega, by omega⟩ | exact u32r _ | assumption) ?_) | (apply And.intro))
                        refine ⟨⟨2, L5, by omega, r5_same hL5 (fun _ => hsd)⟩, by show 5 - 2 < 5 - 1; omega, ?_, ?_⟩
                        · repeat' (first | exact trivial | exact rfl | exact leF_int rfl | exact leF_ptr rfl | exact leN_cells | refine leN_upd rfl ?_ | exact leC_slI (by assumption) | refine leF_int ?_ | refine leF_bool ?_ | refine leN_all ?_ | refine leC_int ?_ | refine leC_bool ?_ | apply And.intro)
                        · repeat' (first | exact trivial | exact rfl | exact leF_int rfl | exact leF_ptr rfl | exact leN_cells | refine leN_upd rfl ?_ | exact leC_slI (by assumption) | refine leF_int ?_ | refine leF_bool ?_ | refine leN_all ?_ | refine leC_int ?_ | refine leC_bool ?_ | apply And.intro)
                    · cases hsn : sd 2 with
                      | true =>
                        have hsd : t = f0 ∧ F 2 = f0 := by simpa [hsn] using (hsd0 2 (by omega)).symm
                        repeat' (first | (apply And.intro <;> intro hc <;> (first | exact Bool.noConfusion hc | (exfalso; simp [hsn] at hc; done) | (simp only [ hsn, decide_eq_true_eq, decide_eq_false_iff_not, Bool.not_eq_true', Bool.not_eq_false', beq_iff_eq, beq_eq_false_iff_ne, bne_iff_ne, bne_eq_false_iff_eq, Bool.true_eq_false, Bool.false_eq_true, ne_eq, not_true_eq_false, not_false_eq_true] at hc <;> first | (exfalso; omega) | skip) | skip)) | (refine And.intro (by first | decide | omega | (dsimp only; omega) | exact ⟨by assumption, by omega, by omega⟩ | exact u32r _ | assumption) ?_) | (apply And.intro))
                        refine ⟨⟨3, L5, by omega, r5_same hL5 (fun h => absurd rfl h)⟩, by show 5 - 3 < 5 - 2; omega, ?_, ?_⟩
                        · repeat' (first | exact trivial | exact rfl | exact leF_int rfl | exact leF_ptr rfl | exact leN_cells | refine leN_upd rfl ?_ | exact leC_slI (by assumption) | refine leF_int ?_ | refine leF_bool ?_ | refine leN_all ?_ | refine leC_int ?_ | refine leC_bool ?_ | apply And.intro)
                        · repeat' (first | exact trivial | exact rfl | exact leF_int rfl | exact leF_ptr rfl | exact leN_cells | refine leN_upd rfl ?_ | exact leC_slI (by assumption) | refine leF_int ?_ | refine leF_bool ?_ | refine leN_all ?_ | refine leC_int ?_ | refine leC_bool ?_ | apply And.intro)
                      | false =>
                        have hsd : ¬ (t = f0 ∧ F 2 = f0) := by simpa [hsn] using (hsd0 2 (by omega)).symm
                        repeat' (first | (apply And.intro <;> intro hc <;> (first | exact Bool.noConfusion hc | (exfalso; simp [hsn] at hc; done) | (simp only [ hsn, decide_eq_true_eq, decide_eq_false_iff_not, Bool.not_eq_true', Bool.not_eq_false', beq_iff_eq, beq_eq_false_iff_ne, bne_iff_ne, bne_eq_false_iff_eq, Bool.true_eq_false, Bool.false_eq_true, ne_eq, not_true_eq_false, not_false_eq_true] at hc <;> first | (exfalso; omega) | skip) | skip)) | (refine And.intro (by first | decide | omega | (dsimp only; omega) | exact ⟨by assumption, by omega, by omega⟩ | exact u32r _ | assumption) ?_) | (apply And.intro))
                        refine ⟨⟨3, L5, by omega, r5_same hL5 (fun _ => hsd)⟩, by show 5 - 3 < 5 - 2; omega, ?_, ?_⟩
                        · repeat' (first | exact trivial | exact rfl | exact leF_int rfl | exact leF_ptr rfl | exact leN_cells | refine leN_upd rfl ?_ | exact leC_slI (by assumption) | refine leF_int ?_ | refine leF_bool ?_ | refine leN_all ?_ | refine leC_int ?_ | refine leC_bool ?_ | apply And.intro)
                        · repeat' (first | exact trivial | exact rfl | exact leF_int rfl | exact leF_ptr rfl | exact leN_cells | refine leN_upd rfl ?_ | exact leC_slI (by assumption) | refine leF_int ?_ | refine leF_bool ?_ | refine leN_all ?_ | refine leC_int ?_ | refine leC_bool ?_ | apply And.intro)
                    · cases hsn : sd 3 with
                      | true =>
                        have hsd : t = f0 ∧ F 3 = f0 := by simpa [hsn] using (hsd0 3 (by omega)).symm
                        repeat' (first | (apply And.intro <;> intro hc <;> (first | exact Bool.noConfusion hc | (exfalso; simp [hsn] at hc; done) | (simp only [ hsn, decide_eq_true_eq, decide_eq_false_iff_not, Bool.not_eq_true', Bool.not_eq_false', beq_iff_eq, beq_eq_false_iff_ne, bne_iff_ne, bne_eq_false_iff_eq, Bool.true_eq_false, Bool.false_eq_true, ne_eq, not_true_eq_false, not_false_eq_true] at hc <;> first | (exfalso; omega) | skip) | skip)) | (refine And.intro (by first | decide | omega | (dsimp only; omega) | exact ⟨by assumption, by omega, by omega⟩ | exact u32r _ | assumption) ?_) | (apply And.intro))
                        intro z hz
                        have hz' : z = hearT (L5 2) := hz
                        clear hz
                        repeat' (first | (apply And.intro <;> intro hc <;> (first | exact Bool.noConfusion hc | (simp only [decide_eq_true_eq, decide_eq_false_iff_not, Bool.not_eq_true', Bool.not_eq_false', beq_iff_eq, beq_eq_false_iff_ne, bne_iff_ne, bne_eq_false_iff_eq, Bool.true_eq_false, Bool.false_eq_true] at hc) | skip)) | (refine And.intro (by first | decide | omega | (dsimp only; omega) | exact ⟨by assumption, by omega, by omega⟩ | exact u32r _) ?_) | (apply And.intro))
                        refine ⟨⟨4, upd L5 2 z, by omega, r5_hear hL5 (by omega) hnm (hFr 2 (by omega)) hz' hsd.1⟩, by show 5 - 4 < 5 - 3; omega, ?_, ?_⟩
                        · repeat' (first | exact trivial | exact rfl | exact leF_int rfl | exact leF_ptr rfl | exact leN_cells | refine leN_upd rfl ?_ | exact leC_slI (by assumption) | refine leF_int ?_ | refine leF_bool ?_ | refine leN_all ?_ | refine leC_int ?_ | refine leC_bool ?_ | apply And.intro)
                        · repeat' (first | exact trivial | exact rfl | exact leF_int rfl | exact leF_ptr rfl | exact leN_cells | refine leN_upd rfl ?_ | exact leC_slI (by assumption) | refine leF_int ?_ | refine leF_bool ?_ | refine leN_all ?_ | refine leC_int ?_ | refine leC_bool ?_ | apply And.intro)
                      | false =>
                        have hsd : ¬ (t = f0 ∧ F 3 = f0) := by simpa [hsn] using (hsd0 3 (by omega)).symm
                        repeat' (first | (apply And.intro <;> intro hc <;> (first | exact Bool.noConfusion hc | (exfalso; simp [hsn] at hc; done) | (simp only [ hsn, decide_eq_true_eq, decide_eq_false_iff_not, Bool.not_eq_true', Bool.not_eq_false', beq_iff_eq, beq_eq_false_iff_ne, bne_iff_ne, bne_eq_false_iff_eq, Bool.true_eq_false, Bool.false_eq_true, ne_eq, not_true_eq_false, not_false_eq_true] at hc <;> first | (exfalso; omega) | skip) | skip)) | (refine And.intro (by first | decide | omega | (dsimp only; omega) | exact ⟨by assumption, by omega, by omega⟩ | exact u32r _ | assumption) ?_) | (apply And.intro))
                        refine ⟨⟨4, L5, by omega, r5_same hL5 (fun _ => hsd)⟩, by show 5 - 4 < 5 - 3; omega, ?_, ?_⟩
                        · repeat' (first | exact trivial | exact rfl | exact leF_int rfl | exact leF_ptr rfl | exact leN_cells | refine leN_upd rfl ?_ | exact leC_slI (by assumption) | refine leF_int ?_ | refine leF_bool ?_ | refine leN_all ?_ | refine leC_int ?_ | refine leC_bool ?_ | apply And.intro)
                        · repeat' (first | exact trivial | exact rfl | exact leF_int rfl | exact leF_ptr rfl | exact leN_cells | refine leN_upd rfl ?_ | exact leC_slI (by assumption) | refine leF_int ?_ | refine leF_bool ?_ | refine leN_all ?_ | refine leC_int ?_ | refine leC_bool ?_ | apply And.intro)
                    · cases hsn : sd 4 with
                      | true =>
                        have hsd : t = f0 ∧ F 4 = f0 := by simpa [hsn] using (hsd0 4 (by omega)).symm
                        repeat' (first | (apply And.intro <;> intro hc <;> (first | exact Bool.noConfusion hc | (exfalso; simp [hsn] at hc; done) | (simp only [ hsn, decide_eq_true_eq, decide_eq_false_iff_not, Bool.not_eq_true', Bool.not_eq_false', beq_iff_eq, beq_eq_false_iff_ne, bne_iff_ne, bne_eq_false_iff_eq, Bool.true_eq_false, Bool.false_eq_true, ne_eq, not_true_eq_false, not_false_eq_true] at hc <;> first | (exfalso; omega) | skip) | skip)) | (refine And.intro (by first | decide | omega | (dsimp only; omega) | exact ⟨by assumption, by omega, by omega⟩ | exact u32r _ | assumption) ?_) | (apply And.intro))
                        intro z hz
                        have hz' : z = hearT (L5 2) := hz
                        clear hz
                        repeat' (first | (apply And.intro <;> intro hc <;> (first | exact Bool.noConfusion hc | (simp only [decide_eq_true_eq, decide_eq_false_iff_not, Bool.not_eq_true', Bool.not_eq_false', beq_iff_eq, beq_eq_false_iff_ne, bne_iff_ne, bne_eq_false_iff_eq, Bool.true_eq_false, Bool.false_eq_true] at hc) | skip)) | (refine And.intro (by first | decide | omega | (dsimp only; omega) | exact ⟨by assumption, by omega, by omega⟩ | exact u32r _) ?_) | (apply And.intro))
                        refine ⟨⟨5, upd L5 2 z, by omega, r5_hear hL5 (by omega) hnm (hFr 2 (by omega)) hz' hsd.1⟩, by show 5 - 5 < 5 - 4; omega, ?_, ?_⟩
                        · repeat' (first | exact trivial | exact rfl | exact leF_int rfl | exact leF_ptr rfl | exact leN_cells | refine leN_upd rfl ?_ | exact leC_slI (by assumption) | refine leF_int ?_ | refine leF_bool ?_ | refine leN_all ?_ | refine leC_int ?_ | refine leC_bool ?_ | apply And.intro)
                        · repeat' (first | exact trivial | exact rfl | exact leF_int rfl | exact leF_ptr rfl | exact leN_cells | refine leN_upd rfl ?_ | exact leC_slI (by assumption) | refine leF_int ?_ | refine leF_bool ?_ | refine leN_all ?_ | refine leC_int ?_ | refine leC_bool ?_ | apply And.intro)
                      | false =>
                        have hsd : ¬ (t = f0 ∧ F 4 = f0) := by simpa [hsn] using (hsd0 4 (by omega)).symm
                        repeat' (first | (apply And.intro <;> intro hc <;> (first | exact Bool.noConfusion hc | (exfalso; simp [hsn] at hc; done) | (simp only [ hsn, decide_eq_true_eq, decide_eq_false_iff_not, Bool.not_eq_true', Bool.not_eq_false', beq_iff_eq, beq_eq_false_iff_ne, bne_iff_ne, bne_eq_false_iff_eq, Bool.true_eq_false, Bool.false_eq_true, ne_eq, not_true_eq_false, not_false_eq_true] at hc <;> first | (exfalso; omega) | skip) | skip)) | (refine And.intro (by first | decide | omega | (dsimp only; omega) | exact ⟨by assumption, by omega, by omega⟩ | exact u32r _ | assumption) ?_) | (apply And.intro))
                        refine ⟨⟨5, L5, by omega, r5_same hL5 (fun _ => hsd)⟩, by show 5 - 5 < 5 - 4; omega, ?_, ?_⟩
                        · repeat' (first | exact trivial | exact rfl | exact leF_int rfl | exact leF_ptr rfl | exact leN_cells | refine leN_upd rfl ?_ | exact leC_slI (by assumption) | refine leF_int ?_ | refine leF_bool ?_ | refine leN_all ?_ | refine leC_int ?_ | refine leC_bool ?_ | apply And.intro)
                        · repeat' (first | exact trivial | exact rfl | exact leF_int rfl | exact leF_ptr rfl | exact leN_cells | refine leN_upd rfl ?_ | exact leC_slI (by assumption) | refine leF_int ?_ | refine leF_bool ?_ | refine leN_all ?_ | refine leC_int ?_ | refine leC_bool ?_ | apply And.intro)
                    · repeat' (first | (apply And.intro <;> intro hc <;> (first | exact Bool.noConfusion hc | (simp only [decide_eq_true_eq, decide_eq_false_iff_not, Bool.not_eq_true', Bool.not_eq_false', beq_iff_eq, beq_eq_false_iff_ne, bne_iff_ne, bne_eq_false_iff_eq, Bool.true_eq_false, Bool.false_eq_true] at hc) | skip)) | (refine And.intro (by first | decide | omega | (dsimp only; omega) | exact ⟨by assumption, by omega, by omega⟩ | exact u32r _) ?_) | (apply And.intro))
                      refine ⟨⟨3, L5, by omega, r5_end hL5⟩, by show 5 - 3 < 5 - 2; omega, ?_, ?_⟩
                      · repeat' (first | exact trivial | exact rfl | exact leF_int rfl | exact leF_ptr rfl | exact leN_cells | refine leN_upd rfl ?_ | exact leC_slI (by assumption) | refine leF_int ?_ | refine leF_bool ?_ | refine leN_all ?_ | refine leC_int ?_ | refine leC_bool ?_ | apply And.intro)
                      · repeat' (first | exact trivial | exact rfl | exact leF_int rfl | exact leF_ptr rfl | exact leN_cells | refine leN_upd rfl ?_ | exact leC_slI (by assumption) | refine leF_int ?_ | refine leF_bool ?_ | refine leN_all ?_ | refine leC_int ?_ | refine leC_bool ?_ | apply And.intro)
                  · repeat' (first | exact trivial | exact rfl | exact leF_int rfl | exact leF_ptr rfl | exact leN_cells | refine leN_upd rfl ?_ | exact leC_slI (by assumption) | refine leF_int ?_ | refine leF_bool ?_ | refine leN_all ?_ | refine leC_int ?_ | refine leC_bool ?_ | apply And.intro)
                  · repeat' (first | exact trivial | exact rfl | exact leF_int rfl | exact leF_ptr rfl | exact leN_cells | refine leN_upd rfl ?_ | exact leC_slI (by assumption) | refine leF_int ?_ | refine leF_bool ?_ | refine leN_all ?_ | refine leC_int ?_ | refine leC_bool ?_ | apply And.intro)
                · repeat' (first | (apply And.intro <;> intro hc <;> (first | exact Bool.noConfusion hc | (simp only [decide_eq_true_eq, decide_eq_false_iff_not, Bool.not_eq_true', Bool.not_eq_false', beq_iff_eq, beq_eq_false_iff_ne, bne_iff_ne, bne_eq_false_iff_eq, Bool.true_eq_false, Bool.false_eq_true] at hc) | skip)) | (refine And.intro (by first | decide | omega | (dsimp only; omega) | exact ⟨by assumption, by omega, by omega⟩ | exact u32r _) ?_) | (apply And.intro))
                  refine loop_intro (mono_of L4_ok) (σ := S5 n m f0 t F 3) (fun s => ⟨[(1, .e (.c (.int .i64 n))), (2, .e (.c (.int .i64 m))), (7, one (.ptr 9 0)), (8, .e (.c (.int .i64 f0))), (12, .e (.c (.int .i64 t))), (13, one (.ptr 17 0)), (18, .e (.c (.int .i64 3))), (19, .e (.c (.int .i64 s.j)))], [(9, some ⟨40, 40, cellsL s.L⟩), (17, some ⟨41, 5, fun c => .bool (sd c)⟩)], 19⟩) (fun s => 5 - s.j) (fun _ => rfl) ?_ ⟨0, L4', by omega, s5_init hL4⟩ ?_ ?_
                  · rintro ⟨j, L5, hj5, hL5⟩
                    dsimp only
                    rcases (show j = 0 ∨ j = 1 ∨ j = 2 ∨ j = 3 ∨ j = 4 ∨ j = 5 by omega) with rfl | rfl | rfl | rfl | rfl | rfl
                    · cases hsn : sd 0 with
                      | true =>
                        have hsd : t = f0 ∧ F 0 = f0 := by simpa [hsn] using (hsd0 0 (by omega)).symm
                        repeat' (first | (apply And.intro <;> intro hc <;> (first | exact Bool.noConfusion hc | (exfalso; simp [hsn] at hc; done) | (simp only [ hsn, decide_eq_true_eq, decide_eq_false_iff_not, Bool.not_eq_true', Bool.not_eq_false', beq_iff_eq, beq_eq_false_iff_ne, bne_iff_ne, bne_eq_false_iff_eq, Bool.true_eq_false, Bool.false_eq_true, ne_eq, not_true_eq_false, not_false_eq_true] at hc <;> first | (exfalso; omega) | skip) | skip)) | (refine And.intro (by first | decide | omega | (dsimp only; omega) | exact ⟨by assumption, by omega, by omega⟩ | exact u32r _ | assumption) ?_) | (apply And.intro))
                        intro z hz
                        have hz' : z = hearT (L5 3) := hz
                        clear hz
                        repeat' (first | (apply And.intro <;> intro hc <;> (first | exact Bool.noConfusion hc | (simp only [decide_eq_true_eq, decide_eq_false_iff_not, Bool.not_eq_true', Bool.not_eq_false', beq_iff_eq, beq_eq_false_iff_ne, bne_iff_ne, bne_eq_false_iff_eq, Bool.true_eq_false, Bool.false_eq_true] at hc) | skip)) | (refine And.intro (by first | decide | omega | (dsimp only; omega) | exact ⟨by assumption, by omega, by omega⟩ | exact u32r _) ?_) | (apply And.intro))
                        refine ⟨⟨1, upd L5 3 z, by omega, r5_hear hL5 (by omega) hnm (hFr 3 (by omega)) hz' hsd.1⟩, by show 5 - 1 < 5 - 0; omega, ?_, ?_⟩
                        · repeat' (first | exact trivial | exact rfl | exact leF_int rfl | exact leF_ptr rfl | exact leN_cells | refine leN_upd rfl ?_ | exact leC_slI (by assumption) | refine leF_int ?_ | refine leF_bool ?_ | refine leN_all ?_ | refine leC_int ?_ | refine leC_bool ?_ | apply And.intro)
                        · repeat' (first | exact trivial | exact rfl | exact leF_int rfl | exact leF_ptr rfl | exact leN_cells | refine leN_upd rfl ?_ | exact leC_slI (by assumption) | refine leF_int ?_ | refine leF_bool ?_ | refine leN_all ?_ | refine leC_int ?_ | refine leC_bool ?_ | apply And.intro)
                      | false =>
                        have hsd : ¬ (t = f0 ∧ F 0 = f0) := by simpa [hsn] using (hsd0 0 (by omega)).symm
                        repeat' (first | (apply And.intro <;> intro hc <;> (first | exact Bool.noConfusion hc | (exfalso; simp [hsn] at hc; done) | (simp only [ hsn, decide_eq_true_eq, decide_eq_false_iff_not, Bool.not_eq_true', Bool.not_eq_false', beq_iff_eq, beq_eq_false_iff_ne, bne_iff_ne, bne_eq_false_iff_eq, Bool.true_eq_false, Bool.false_eq_true, ne_eq, not_true_eq_false, not_false_eq_true] at hc <;> first | (exfalso; omega) | skip) | skip)) | (refine And.intro (by first | decide | omega | (dsimp only; omega) | exact ⟨by assumption, by omega, by omega⟩ | exact u32r _ | assumption) ?_) | (apply And.intro))
                        refine ⟨⟨1, L5, by omega, r5_same hL5 (fun _ => hsd)⟩, by show 5 - 1 < 5 - 0; omega, ?_, ?_⟩
                        · repeat' (first | exact trivial | exact rfl | exact leF_int rfl | exact leF_ptr rfl | exact leN_cells | refine leN_upd rfl ?_ | exact leC_slI (by assumption) | refine leF_int ?_ | refine leF_bool ?_ | refine leN_all ?_ | refine leC_int ?_ | refine leC_bool ?_ | apply And.intro)
                        · repeat' (first | exact trivial | exact rfl | exact leF_int rfl | exact leF_ptr rfl | exact leN_cells | refine leN_upd rfl ?_ | exact leC_slI (by assumption) | refine leF_int ?_ | refine leF_bool ?_ | refine leN_all ?_ | refine leC_int ?_ | refine leC_bool ?_ | apply And.intro)
                    · cases hsn : sd 1 with
                      | true =>
                        have hsd : t = f0 ∧ F 1 = f0 := by simpa [hsn] using (hsd0 1 (by omega)).symm
                        repeat' (first | (apply And.intro <;> intro hc <;> (first | exact Bool.noConfusion hc | (exfalso; simp [hsn] at hc; done) | (simp only [ hsn, decide_eq_true_eq, decide_eq_false_iff_not, Bool.not_eq_true', Bool.not_eq_false', beq_iff_eq, beq_eq_false_iff_ne, bne_iff_ne, bne_eq_false_iff_eq, Bool.true_eq_false, Bool.false_eq_true, ne_eq, not_true_eq_false, not_false_eq_true] at hc <;> first | (exfalso; omega) | skip) | skip)) | (refine And.intro (by first | decide | omega | (dsimp only; omega) | exact ⟨by assumption, by omega, by omega⟩ | exact u32r _ | assumption) ?_) | (apply And.intro))
                        intro z hz
                        have hz' : z = hearT (L5 3) := hz
                        clear hz
                        repeat' (first | (apply And.intro <;> intro hc <;> (first | exact Bool.noConfusion hc | (simp only [decide_eq_true_eq, decide_eq_false_iff_not, Bool.not_eq_true', Bool.not_eq_false', beq_iff_eq, beq_eq_false_iff_ne, bne_iff_ne, bne_eq_false_iff_eq, Bool.true_eq_false, Bool.false_eq_true] at hc) | skip)) | (refine And.intro (by first | decide | omega | (dsimp only; omega) | exact ⟨by assumption, by omega, by omega⟩ | exact u32r _) ?_) | (apply And.intro))
                        refine ⟨⟨2, upd L5 3 z, by omega, r5_hear hL5 (by omega) hnm (hFr 3 (by omega)) hz' hsd.1⟩, by show 5 - 2 < 5 - 1; omega, ?_, ?_⟩
                        · repeat' (first | exact trivial | exact rfl | exact leF_int rfl | exact leF_ptr rfl | exact leN_cells | refine leN_upd rfl ?_ | exact leC_slI (by assumption) | refine leF_int ?_ | refine leF_bool ?_ | refine leN_all ?_ | refine leC_int ?_ | refine leC_bool ?_ | apply And.intro)
                        · repeat' (first | exact trivial | exact rfl | exact leF_int rfl | exact leF_ptr rfl | exact leN_cells | refine leN_upd rfl ?_ | exact leC_slI (by assumption) | refine leF_int ?_ | refine leF_bool ?_ | refine leN_all ?_ | refine leC_int ?_ | refine leC_bool ?_ | apply And.intro)
                      | false =>
                        have hsd : ¬ (t = f0 ∧ F 1 = f0) := by simpa [hsn] using (hsd0 1 (by omega)).symm
                        repeat' (first | (apply And.intro <;> intro hc <;> (first | exact Bool.noConfusion hc | (exfalso; simp [hsn] at hc; done) | (simp only [ hsn, decide_eq_true_eq, decide_eq_false_iff_not, Bool.not_eq_true', Bool.not_eq_false', beq_iff_eq, beq_eq_false_iff_ne, bne_iff_ne, bne_eq_false_iff_eq, Bool.true_eq_false, Bool.false_eq_true, ne_eq, not_true_eq_false, not_false_eq_true] at hc <;> first | (exfalso; omega) | skip) | skip)) | (refine And.intro (by first | decide | omega | (dsimp only; omega) | exact ⟨by assumption, by omega, by omega⟩ | exact u32r _ | assumption) ?_) | (apply And.intro))
                        refine ⟨⟨2, L5, by omega, r5_same hL5 (fun _ => hsd)⟩, by show 5 - 2 < 5 - 1; omega, ?_, ?_⟩
                        · repeat' (first | exact trivial | exact rfl | exact leF_int rfl | exact leF_ptr rfl | exact leN_cells | refine leN_upd rfl ?_ | exact leC_slI (by assumption) | refine leF_int ?_ | refine leF_bool ?_ | refine leN_all ?_ | refine leC_int ?_ | refine leC_bool ?_ | apply And.intro)
                        · repeat' (first | exact trivial | exact rfl | exact leF_int rfl | exact leF_ptr rfl | exact leN_cells | refine leN_upd rfl ?_ | exact leC_slI (by assumption) | refine leF_int ?_ | refine leF_bool ?_ | refine leN_all ?_ | refine leC_int ?_ | refine leC_bool ?_ | apply And.intro)
                    · cases hsn : sd 2 with
                      | true =>
                        have hsd : t = f0 ∧ F 2 = f0 := by simpa [hsn] using (hsd0 2 (by omega)).symm
                        repeat' (first | (apply And.intro <;> intro hc <;> (first | exact Bool.noConfusion hc | (exfalso; simp [hsn] at hc; done) | (simp only [ hsn, decide_eq_true_eq, decide_eq_false_iff_not, Bool.not_eq_true', Bool.not_eq_false', beq_iff_eq, beq_eq_false_iff_ne, bne_iff_ne, bne_eq_false_iff_eq, Bool.true_eq_false, Bool.false_eq_true, ne_eq, not_true_eq_false, not_false_eq_true] at hc <;> first | (exfalso; omega) | skip) | skip)) | (refine And.intro (by first | decide | omega | (dsimp only; omega) | exact ⟨by assumption, by omega, by omega⟩ | exact u32r _ | assumption) ?_) | (apply And.intro))
                        intro z hz
                        have hz' : z = hearT (L5 3) := hz
                        clear hz
                        repeat' (first | (apply And.intro <;> intro hc <;> (first | exact Bool.noConfusion hc | (simp only [decide_eq_true_eq, decide_eq_false_iff_not, Bool.not_eq_true', Bool.not_eq_false', beq_iff_eq, beq_eq_false_iff_ne, bne_iff_ne, bne_eq_false_iff_eq, Bool.true_eq_false, Bool.false_eq_true] at hc) | skip)) | (refine And.intro (by first | decide | omega | (dsimp only; omega) | exact ⟨by assumption, by omega, by omega⟩ | exact u32r _) ?_) | (apply And.intro))
                        refine ⟨⟨3, upd L5 3 z, by omega, r5_hear hL5 (by omega) hnm (hFr 3 (by omega)) hz' hsd.1⟩, by show 5 - 3 < 5 - 2; omega, ?_, ?_⟩
                        · repeat' (first | exact trivial | exact rfl | exact leF_int rfl | exact leF_ptr rfl | exact leN_cells | refine leN_upd rfl ?_ | exact leC_slI (by assumption) | refine leF_int ?_ | refine leF_bool ?_ | refine leN_all ?_ | refine leC_int ?_ | refine leC_bool ?_ | apply And.intro)
                        · repeat' (first | exact trivial | exact rfl | exact leF_int rfl | exact leF_ptr rfl | exact leN_cells | refine leN_upd rfl ?_ | exact leC_slI (by assumption) | refine leF_int ?_ | refine leF_bool ?_ | refine leN_all ?_ | refine leC_int ?_ | refine leC_bool ?_ | apply And.intro)
                      | false =>
                        have hsd : ¬ (t = f0 ∧ F 2 = f0) := by simpa [hsn] using (hsd0 2 (by omega)).symm
                        repeat' (first | (apply And.intro <;> intro hc <;> (first | exact Bool.noConfusion hc | (exfalso; simp [hsn] at hc; done) | (simp only [ hsn, decide_eq_true_eq, decide_eq_false_iff_not, Bool.not_eq_true', Bool.not_eq_false', beq_iff_eq, beq_eq_false_iff_ne, bne_iff_ne, bne_eq_false_iff_eq, Bool.true_eq_false, Bool.false_eq_true, ne_eq, not_true_eq_false, not_false_eq_true] at hc <;> first | (exfalso; omega) | skip) | skip)) | (refine And.intro (by first | decide | omega | (dsimp only; omega) | exact ⟨by assumption, by omega, by omega⟩ | exact u32r _ | assumption) ?_) | (apply And.intro))
                        refine ⟨⟨3, L5, by omega, r5_same hL5 (fun _ => hsd)⟩, by show 5 - 3 < 5 - 2; omega, ?_, ?_⟩
                        · repeat' (first | exact trivial | exact rfl | exact leF_int rfl | exact leF_ptr rfl | exact leN_cells | refine leN_upd rfl ?_ | exact leC_slI (by assumption) | refine leF_int ?_ | refine leF_bool ?_ | refine leN_all ?_ | refine leC_int ?_ | refine leC_bool ?_ | apply And.intro)
                        · repeat' (first | exact trivial | exact rfl | exact leF_int rfl | exact leF_ptr rfl | exact leN_cells | refine leN_upd rfl ?_ | exact leC_slI (by assumption) | refine leF_int ?_ | refine leF_bool ?_ | refine leN_all ?_ | refine leC_int ?_ | refine leC_bool ?_ | apply And.intro)
                    · cases hsn : sd 3 with
                      | true =>
                        have hsd : t = f0 ∧ F 3 = f0 := by simpa [hsn] using (hsd0 3 (by omega)).symm
                        repeat' (first | (apply And.intro <;> intro hc <;> (first | exact Bool.noConfusion hc | (exfalso; simp [hsn] at hc; done) | (simp only [ hsn, decide_eq_true_eq, decide_eq_false_iff_not, Bool.not_eq_true', Bool.not_eq_false', beq_iff_eq, beq_eq_false_iff_ne, bne_iff_ne, bne_eq_false_iff_eq, Bool.true_eq_false, Bool.false_eq_true, ne_eq, not_true_eq_false, not_false_eq_true] at hc <;> first | (exfalso; omega) | skip) | skip)) | (refine And.intro (by first | decide | omega | (dsimp only; omega) | exact ⟨by assumption, by omega, by omega⟩ | exact u32r _ | assumption) ?_) | (apply And.intro))
                        refine ⟨⟨4, L5, by omega, r5_same hL5 (fun h => absurd rfl h)⟩, by show 5 - 4 < 5 - 3; omega, ?_, ?_⟩
                        · repeat' (first | exact trivial | exact rfl | exact leF_int rfl | exact leF_ptr rfl | exact leN_cells | refine leN_upd rfl ?_ | exact leC_slI (by assumption) | refine leF_int ?_ | refine leF_bool ?_ | refine leN_all ?_ | refine leC_int ?_ | refine leC_bool ?_ | apply And.intro)
                        · repeat' (first | exact trivial | exact rfl | exact leF_int rfl | exact leF_ptr rfl | exact leN_cells | refine leN_upd rfl ?_ | exact leC_slI (by assumption) | refine leF_int ?_ | refine leF_bool ?_ | refine leN_all ?_ | refine leC_int ?_ | refine leC_bool ?_ | apply And.intro)
                      | false =>
                        have hsd : ¬ (t = f0 ∧ F 3 = f0) := by simpa [hsn] using (hsd0 3 (by omega)).symm
                        repeat' (first | (apply And.intro <;> intro hc <;> (first | exact Bool.noConfusion hc | (exfalso; simp [hsn] at hc; done) | (simp only [ hsn, decide_eq_true_eq, decide_eq_false_iff_not, Bool.not_eq_true', Bool.not_eq_false', beq_iff_eq, beq_eq_false_iff_ne, bne_iff_ne, bne_eq_false_iff_eq, Bool.true_eq_false, Bool.false_eq_true, ne_eq, not_true_eq_false, not_false_eq_true] at hc <;> first | (exfalso; omega) | skip) | skip)) | (refine And.intro (by first | decide | omega | (dsimp only; omega) | exact ⟨by assumption, by omega, by omega⟩ | exact u32r _ | assumption) ?_) | (apply And.intro))
                        refine ⟨⟨4, L5, by omega, r5_same hL5 (fun _ => hsd)⟩, by show 5 - 4 < 5 - 3; omega, ?_, ?_⟩
                        · repeat' (first | exact trivial | exact rfl | exact leF_int rfl | exact leF_ptr rfl | exact leN_cells | refine leN_upd rfl ?_ | exact leC_slI (by assumption) | refine leF_int ?_ | refine leF_bool ?_ | refine leN_all ?_ | refine leC_int ?_ | refine leC_bool ?_ | apply And.intro)
                        · repeat' (first | exact trivial | exact rfl | exact leF_int rfl | exact leF_ptr rfl | exact leN_cells | refine leN_upd rfl ?_ | exact leC_slI (by assumption) | refine leF_int ?_ | refine leF_bool ?_ | refine leN_all ?_ | refine leC_int ?_ | refine leC_bool ?_ | apply And.intro)
                    · cases hsn : sd 4 with
                      | true =>
                        have hsd : t = f0 ∧ F 4 = f0 := by simpa [hsn] using (hsd0 4 (by omega)).symm
                        repeat' (first | (apply And.intro <;> intro hc <;> (first | exact Bool.noConfusion hc | (exfalso; simp [hsn] at hc; done) | (simp only [ hsn, decide_eq_true_eq, decide_eq_false_iff_not, Bool.not_eq_true', Bool.not_eq_false', beq_iff_eq, beq_eq_false_iff_ne, bne_iff_ne, bne_eq_false_iff_eq, Bool.true_eq_false, Bool.false_eq_true, ne_eq, not_true_eq_false, not_false_eq_true] at hc <;> first | (exfalso; omega) | skip) | skip)) | (refine And.intro (by first | decide | omega | (dsimp only; omega) | exact ⟨by assumption, by omega, by omega⟩ | exact u32r _ | assumption) ?_) | (apply And.intro))
                        intro z hz
                        have hz' : z = hearT (L5 3) := hz
                        clear hz
                        repeat' (first | (apply And.intro <;> intro hc <;> (first | exact Bool.noConfusion hc | (simp only [decide_eq_true_eq, decide_eq_false_iff_not, Bool.not_eq_true', Bool.not_eq_false', beq_iff_eq, beq_eq_false_iff_ne, bne_iff_ne, bne_eq_false_iff_eq, Bool.true_eq_false, Bool.false_eq_true] at hc) | skip)) | (refine And.intro (by first | decide | omega | (dsimp only; omega) | exact ⟨by assumption, by omega, by omega⟩ | exact u32r _) ?_) | (apply And.intro))
                        refine ⟨⟨5, upd L5 3 z, by omega, r5_hear hL5 (by omega) hnm (hFr 3 (by omega)) hz' hsd.1⟩, by show 5 - 5 < 5 - 4; omega, ?_, ?_⟩
                        · repeat' (first | exact trivial | exact rfl | exact leF_int rfl | exact leF_ptr rfl | exact leN_cells | refine leN_upd rfl ?_ | exact leC_slI (by assumption) | refine leF_int ?_ | refine leF_bool ?_ | refine leN_all ?_ | refine leC_int ?_ | refine leC_bool ?_ | apply And.intro)
                        · repeat' (first | exact trivial | exact rfl | exact leF_int rfl | exact leF_ptr rfl | exact leN_cells | refine leN_upd rfl ?_ | exact leC_slI (by assumption) | refine leF_int ?_ | refine leF_bool ?_ | refine leN_all ?_ | refine leC_int ?_ | refine leC_bool ?_ | apply And.intro)
                      | false =>
                        have hsd : ¬ (t = f0 ∧ F 4 = f0) := by simpa [hsn] using (hsd0 4 (by omega)).symm
                        repeat' (first | (apply And.intro <;> intro hc <;> (first | exact Bool.noConfusion hc | (exfalso; simp [hsn] at hc; done) | (simp only [ hsn, decide_eq_true_eq, decide_eq_false_iff_not, Bool.not_eq_true', Bool.not_eq_false', beq_iff_eq, beq_eq_false_iff_ne, bne_iff_ne, bne_eq_false_iff_eq, Bool.true_eq_false, Bool.false_eq_true, ne_eq, not_true_eq_false, not_false_eq_true] at hc <;> first | (exfalso; omega) | skip) | skip)) | (refine And.intro (by first | decide | omega | (dsimp only; omega) | exact ⟨by assumption, by omega, by omega⟩ | exact u32r _ | assumption) ?_) | (apply And.intro))
                        refine ⟨⟨5, L5, by omega, r5_same hL5 (fun _ => hsd)⟩, by show 5 - 5 < 5 - 4; omega, ?_, ?_⟩
                        · repeat' (first | exact trivial | exact rfl | exact leF_int rfl | exact leF_ptr rfl | exact leN_cells | refine leN_upd rfl ?_ | exact leC_slI (by assumption) | refine leF_int ?_ | refine leF_bool ?_ | refine leN_all ?_ | refine leC_int ?_ | refine leC_bool ?_ | apply And.intro)
                        · repeat' (first | exact trivial | exact rfl | exact leF_int rfl | exact leF_ptr rfl | exact leN_cells | refine leN_upd rfl ?_ | exact leC_slI (by assumption) | refine leF_int ?_ | refine leF_bool ?_ | refine leN_all ?_ | refine leC_int ?_ | refine leC_bool ?_ | apply And.intro)
                    · repeat' (first | (apply And.intro <;> intro hc <;> (first | exact Bool.noConfusion hc | (simp only [decide_eq_true_eq, decide_eq_false_iff_not, Bool.not_eq_true', Bool.not_eq_false', beq_iff_eq, beq_eq_false_iff_ne, bne_iff_ne, bne_eq_false_iff_eq, Bool.true_eq_false, Bool.false_eq_true] at hc) | skip)) | (refine And.intro (by first | decide | omega | (dsimp only; omega) | exact ⟨by assumption, by omega, by omega⟩ | exact u32r _) ?_) | (apply And.intro))
                      refine ⟨⟨4, L5, by omega, r5_end hL5⟩, by show 5 - 4 < 5 - 3; omega, ?_, ?_⟩
                      · repeat' (first | exact trivial | exact rfl | exact leF_int rfl | exact leF_ptr rfl | exact leN_cells | refine leN_upd rfl ?_ | exact leC_slI (by assumption) | refine leF_int ?_ | refine leF_bool ?_ | refine leN_all ?_ | refine leC_int ?_ | refine leC_bool ?_ | apply And.intro)
                      · repeat' (first | exact trivial | exact rfl | exact leF_int rfl | exact leF_ptr rfl | exact leN_cells | refine leN_upd rfl ?_ | exact leC_slI (by assumption) | refine leF_int ?_ | refine leF_bool ?_ | refine leN_all ?_ | refine leC_int ?_ | refine leC_bool ?_ | apply And.intro)
                  · repeat' (first | exact trivial | exact rfl | exact leF_int rfl | exact leF_ptr rfl | exact leN_cells | refine leN_upd rfl ?_ | exact leC_slI (by assumption) | refine leF_int ?_ | refine leF_bool ?_ | refine leN_all ?_ | refine leC_int ?_ | refine leC_bool ?_ | apply And.intro)
                  · repeat' (first | exact trivial | exact rfl | exact leF_int rfl | exact leF_ptr rfl | exact leN_cells | refine leN_upd rfl ?_ | exact leC_slI (by assumption) | refine leF_int ?_ | refine leF_bool ?_ | refine leN_all ?_ | refine leC_int ?_ | refine leC_bool ?_ | apply And.intro)
                · repeat' (first | (apply And.intro <;> intro hc <;> (first | exact Bool.noConfusion hc | (simp only [decide_eq_true_eq, decide_eq_false_iff_not, Bool.not_eq_true', Bool.not_eq_false', beq_iff_eq, beq_eq_false_iff_ne, bne_iff_ne, bne_eq_false_iff_eq, Bool.true_eq_false, Bool.false_eq_true] at hc) | skip)) | (refine And.intro (by first | decide | omega | (dsimp only; omega) | exact ⟨by assumption, by omega, by omega⟩ | exact u32r _) ?_) | (apply And.intro))
                  refine loop_intro (mono_of L4_ok) (σ := S5 n m f0 t F 4) (fun s => ⟨[(1, .e (.c (.int .i64 n))), (2, .e (.c (.int .i64 m))), (7, one (.ptr 9 0)), (8, .e (.c (.int .i64 f0))), (12, .e (.c (.int .i64 t))), (13, one (.ptr 17 0)), (18, .e (.c (.int .i64 4))), (19, .e (.c (.int .i64 s.j)))], [(9, some ⟨40, 40, cellsL s.L⟩), (17, some ⟨41, 5, fun c => .bool (sd c)⟩)], 19⟩) (fun s => 5 - s.j) (fun _ => rfl) ?_ ⟨0, L4', by omega, s5_init hL4⟩ ?_ ?_
                  · rintro ⟨j, L5, hj5, hL5⟩
                    dsimp only
                    rcases (show j = 0 ∨ j = 1 ∨ j = 2 ∨ j = 3 ∨ j = 4 ∨ j = 5 by omega) with rfl | rfl | rfl | rfl | rfl | rfl
                    · cases hsn : sd 0 with
                      | true =>
                        have hsd : t = f0 ∧ F 0 = f0 := by simpa [hsn] using (hsd0 0 (by omega)).symm
                        repeat' (first | (apply And.intro <;> intro hc <;> (first | exact Bool.noConfusion hc | (exfalso; simp [hsn] at hc; done) | (simp only [ hsn, decide_eq_true_eq, decide_eq_false_iff_not, Bool.not_eq_true', Bool.not_eq_false', beq_iff_eq, beq_eq_false_iff_ne, bne_iff_ne, bne_eq_false_iff_eq, Bool.true_eq_false, Bool.false_eq_true, ne_eq, not_true_eq_false, not_false_eq_true] at hc <;> first | (exfalso; omega) | skip) | skip)) | (refine And.intro (by first | decide | omega | (dsimp only; omega) | exact ⟨by assumption, by omega, by omega⟩ | exact u32r _ | assumption) ?_) | (apply And.intro))
                        intro z hz
                        have hz' : z = hearT (L5 4) := hz
                        clear hz
                        repeat' (first | (apply And.intro <;> intro hc <;> (first | exact Bool.noConfusion hc | (simp only [decide_eq_true_eq, decide_eq_false_iff_not, Bool.not_eq_true', Bool.not_eq_false', beq_iff_eq, beq_eq_false_iff_ne, bne_iff_ne, bne_eq_false_iff_eq, Bool.true_eq_false, Bool.false_eq_true] at hc) | skip)) | (refine And.intro (by first | decide | omega | (dsimp only; omega) | exact ⟨by assumption, by omega, by omega⟩ | exact u32r _) ?_) | (apply And.intro))
                        refine ⟨⟨1, upd L5 4 z, by omega, r5_hear hL5 (by omega) hnm (hFr 4 (by omega)) hz' hsd.1⟩, by show 5 - 1 < 5 - 0; omega, ?_, ?_⟩
                        · repeat' (first | exact trivial | exact rfl | exact leF_int rfl | exact leF_ptr rfl | exact leN_cells | refine leN_upd rfl ?_ | exact leC_slI (by assumption) | refine leF_int ?_ | refine leF_bool ?_ | refine leN_all ?_ | refine leC_int ?_ | refine leC_bool ?_ | apply And.intro)
                        · repeat' (first | exact trivial | exact rfl | exact leF_int rfl | exact leF_ptr rfl | exact leN_cells | refine leN_upd rfl ?_ | exact leC_slI (by assumption) | refine leF_int ?_ | refine leF_bool ?_ | refine leN_all ?_ | refine leC_int ?_ | refine leC_bool ?_ | apply And.intro)
                      | false =>
                        have hsd : ¬ (t = f0 ∧ F 0 = f0) := by simpa [hsn] using (hsd0 0 (by omega)).symm
                        repeat' (first | (apply And.intro <;> intro hc <;> (first | exact Bool.noConfusion hc | (exfalso; simp [hsn] at hc; done) | (simp only [ hsn, decide_eq_true_eq, decide_eq_false_iff_not, Bool.not_eq_true', Bool.not_eq_false', beq_iff_eq, beq_eq_false_iff_ne, bne_iff_ne, bne_eq_false_iff_eq, Bool.true_eq_false, Bool.false_eq_true, ne_eq, not_true_eq_false, not_false_eq_true] at hc <;> first | (exfalso; omega) | skip) | skip)) | (refine And.intro (by first | decide | omega | (dsimp only; omega) | exact ⟨by assumption, by omega, by omega⟩ | exact u32r _ | assumption) ?_) | (apply And.intro))
                        refine ⟨⟨1, L5, by omega, r5_same hL5 (fun _ => hsd)⟩, by show 5 - 1 < 5 - 0; omega, ?_, ?_⟩
                        · repeat' (first | exact trivial | exact rfl | exact leF_int rfl | exact leF_ptr rfl | exact leN_cells | refine leN_upd rfl ?_ | exact leC_slI (by assumption) | refine leF_int ?_ | refine leF_bool ?_ | refine leN_all ?_ | refine leC_int ?_ | refine leC_bool ?_ | apply And.intro)
                        · repeat' (first | exact trivial | exact rfl | exact leF_int rfl | exact leF_ptr rfl | exact leN_cells | refine leN_upd rfl ?_ | exact leC_slI (by assumption) | refine leF_int ?_ | refine leF_bool ?_ | refine leN_all ?_ | refine leC_int ?_ | refine leC_bool ?_ | apply And.intro)
                    · cases hsn : sd 1 with
                      | true =>
                        have hsd : t = f0 ∧ F 1 = f0 := by simpa [hsn] using (hsd0 1 (by omega)).symm
                        repeat' (first | (apply And.intro <;> intro hc <;> (first | exact Bool.noConfusion hc | (exfalso; simp [hsn] at hc; done) | (simp only [ hsn, decide_eq_true_eq, decide_eq_false_iff_not, Bool.not_eq_true', Bool.not_eq_false', beq_iff_eq, beq_eq_false_iff_ne, bne_iff_ne, bne_eq_false_iff_eq, Bool.true_eq_false, Bool.false_eq_true, ne_eq, not_true_eq_false, not_false_eq_true] at hc <;> first | (exfalso; omega) | skip) | skip)) | (refine And.intro (by first | decide | omega | (dsimp only; omega) | exact ⟨by assumption, by omega, by omega⟩ | exact u32r _ | assumption) ?_) | (apply And.intro))
                        intro z hz
                        have hz' : z = hearT (L5 4) := hz
                        clear hz
                        repeat' (first | (apply And.intro <;> intro hc <;> (first | exact Bool.noConfusion hc | (simp only [decide_eq_true_eq, decide_eq_false_iff_not, Bool.not_eq_true', Bool.not_eq_false', beq_iff_eq, beq_eq_false_iff_ne, bne_iff_ne, bne_eq_false_iff_eq, Bool.true_eq_false, Bool.false_eq_true] at hc) | skip)) | (refine And.intro (by first | decide | omega | (dsimp only; omega) | exact ⟨by assumption, by omega, by omega⟩ | exact u32r _) ?_) | (apply And.intro))
                        refine ⟨⟨2, upd L5 4 z, by omega, r5_hear hL5 (by omega) hnm (hFr 4 (by omega)) hz' hsd.1⟩, by show 5 - 2 < 5 - 1; omega, ?_, ?_⟩
                        · repeat' (first | exact trivial | exact rfl | exact leF_int rfl | exact leF_ptr rfl | exact leN_cells | refine leN_upd rfl ?_ | exact leC_slI (by assumption) | refine leF_int ?_ | refine leF_bool ?_ | refine leN_all ?_ | refine leC_int ?_ | refine leC_bool ?_ | apply And.intro)
                        · repeat' (first | exact trivial | exact rfl | exact leF_int rfl | exact leF_ptr rfl | exact leN_cells | refine leN_upd rfl ?_ | exact leC_slI (by assumption) | refine leF_int ?_ | refine leF_bool ?_ | refine leN_all ?_ | refine leC_int ?_ | refine leC_bool ?_ | apply And.intro)
                      | false =>
                        have hsd : ¬ (t = f0 ∧ F 1 = f0) := by simpa [hsn] using (hsd0 1 (by omega)).symm
                        repeat' (first | (apply And.intro <;> intro hc <;> (first | exact Bool.noConfusion hc | (exfalso; simp [hsn] at hc; done) | (simp only [ hsn, decide_eq_true_eq, decide_eq_false_iff_not, Bool.not_eq_true', Bool.not_eq_false', beq_iff_eq, beq_eq_false_iff_ne, bne_iff_ne, bne_eq_false_iff_eq, Bool.true_eq_false, Bool.false_eq_true, ne_eq, not_true_eq_false, not_false_eq_true] at hc <;> first | (exfalso; omega) | skip) | skip)) | (refine And.intro (by first | decide | omega | (dsimp only; omega) | exact ⟨by assumption, by omega, by omega⟩ | exact u32r _ | assumption) ?_) | (apply And.intro))
                        refine ⟨⟨2, L5, by omega, r5_same hL5 (fun _ => hsd)⟩, by show 5 - 2 < 5 - 1; omega, ?_, ?_⟩
                        · repeat' (first | exact trivial | exact rfl | exact leF_int rfl | exact leF_ptr rfl | exact leN_cells | refine leN_upd rfl ?_ | exact leC_slI (by assumption) | refine leF_int ?_ | refine leF_bool ?_ | refine leN_all ?_ | refine leC_int ?_ | refine leC_bool ?_ | apply And.intro)
                        · repeat' (first | exact trivial | exact rfl | exact leF_int rfl | exact leF_ptr rfl | exact leN_cells | refine leN_upd rfl ?_ | exact leC_slI (by assumption) | refine leF_int ?_ | refine leF_bool ?_ | refine leN_all ?_ | refine leC_int ?_ | refine leC_bool ?_ | apply And.intro)
                    · cases hsn : sd 2 with
                      | true =>
                        have hsd : t = f0 ∧ F 2 = f0 := by simpa [hsn] using (hsd0 2 (by omega)).symm
                        repeat' (first | (apply And.intro <;> intro hc <;> (first | exact Bool.noConfusion hc | (exfalso; simp [hsn] at hc; done) | (simp only [ hsn, decide_eq_true_eq, decide_eq_false_iff_not, Bool.not_eq_true', Bool.not_eq_false', beq_iff_eq, beq_eq_false_iff_ne, bne_iff_ne, bne_eq_false_iff_eq, Bool.true_eq_false, Bool.false_eq_true, ne_eq, not_true_eq_false, not_false_eq_true] at hc <;> first | (exfalso; omega) | skip) | skip)) | (refine And.intro (by first | decide | omega | (dsimp only; omega) | exact ⟨by assumption, by omega, by omega⟩ | exact u32r _ | assumption) ?_) | (apply And.intro))
                        intro z hz
                        have hz' : z = hearT (L5 4) := hz
                        clear hz
                        repeat' (first | (apply And.intro <;> intro hc <;> (first | exact Bool.noConfusion hc | (simp only [decide_eq_true_eq, decide_eq_false_iff_not, Bool.not_eq_true', Bool.not_eq_false', beq_iff_eq, beq_eq_false_iff_ne, bne_iff_ne, bne_eq_false_iff_eq, Bool.true_eq_false, Bool.false_eq_true] at hc) | skip)) | (refine And.intro (by first | decide | omega | (dsimp only; omega) | exact ⟨by assumption, by omega, by omega⟩ | exact u32r _) ?_) | (apply And.intro))
                        refine ⟨⟨3, upd L5 4 z, by omega, r5_hear hL5 (by omega) hnm (hFr 4 (by omega)) hz' hsd.1⟩, by show 5 - 3 < 5 - 2; omega, ?_, ?_⟩
                        · repeat' (first | exact trivial | exact rfl | exact leF_int rfl | exact leF_ptr rfl | exact leN_cells | refine leN_upd rfl ?_ | exact leC_slI (by assumption) | refine leF_int ?_ | refine leF_bool ?_ | refine leN_all ?_ | refine leC_int ?_ | refine leC_bool ?_ | apply And.intro)
                        · repeat' (first | exact trivial | exact rfl | exact leF_int rfl | exact leF_ptr rfl | exact leN_cells | refine leN_upd rfl ?_ | exact leC_slI (by assumption) | refine leF_int ?_ | refine leF_bool ?_ | refine leN_all ?_ | refine leC_int ?_ | refine leC_bool ?_ | apply And.intro)
                      | false =>
                        have hsd : ¬ (t = f0 ∧ F 2 = f0) := by simpa [hsn] using (hsd0 2 (by omega)).symm
                        repeat' (first | (apply And.intro <;> intro hc <;> (first | exact Bool.noConfusion hc | (exfalso; simp [hsn] at hc; done) | (simp only [ hsn, decide_eq_true_eq, decide_eq_false_iff_not, Bool.not_eq_true', Bool.not_eq_false', beq_iff_eq, beq_eq_false_iff_ne, bne_iff_ne, bne_eq_false_iff_eq, Bool.true_eq_false, Bool.false_eq_true, ne_eq, not_true_eq_false, not_false_eq_true] at hc <;> first | (exfalso; omega) | skip) | skip)) | (refine And.intro (by first | decide | omega | (dsimp only; omega) | exact ⟨by assumption, by omega, by omega⟩ | exact u32r _ | assumption) ?_) | (apply And.intro))
                        refine ⟨⟨3, L5, by omega, r5_same hL5 (fun _ => hsd)⟩, by show 5 - 3 < 5 - 2; omega, ?_, ?_⟩
                        · repeat' (first | exact trivial | exact rfl | exact leF_int rfl | exact leF_ptr rfl | exact leN_cells | refine leN_upd rfl ?_ | exact leC_slI (by assumption) | refine leF_int ?_ | refine leF_bool ?_ | refine leN_all ?_ | refine leC_int ?_ | refine leC_bool ?_ | apply And.intro)
                        · repeat' (first | exact trivial | exact rfl | exact leF_int rfl | exact leF_ptr rfl | exact leN_cells | refine leN_upd rfl ?_ | exact leC_slI (by assumption) | refine leF_int ?_ | refine leF_bool ?_ | refine leN_all ?_ | refine leC_int ?_ | refine leC_bool ?_ | apply And.intro)
                    · cases hsn : sd 3 with
                      | true =>
                        have hsd : t = f0 ∧ F 3 = f0 := by simpa [hsn] using (hsd0 3 (by omega)).symm
                        repeat' (first | (apply And.intro <;> intro hc <;> (first | exact Bool.noConfusion hc | (exfalso; simp [hsn] at hc; done) | (simp only [ hsn, decide_eq_true_eq, decide_eq_false_iff_not, Bool.not_eq_true', Bool.not_eq_false', beq_iff_eq, beq_eq_false_iff_ne, bne_iff_ne, bne_eq_false_iff_eq, Bool.true_eq_false, Bool.false_eq_true, ne_eq, not_true_eq_false, not_false_eq_true] at hc <;> first | (exfalso; omega) | skip) | skip)) | (refine And.intro (by first | decide | omega | (dsimp only; omega) | exact ⟨by assumption, by omega, by omega⟩ | exact u32r _ | assumption) ?_) | (apply And.intro))
                        intro z hz
                        have hz' : z = hearT (L5 4) := hz
                        clear hz
                        repeat' (first | (apply And.intro <;> intro hc <;> (first | exact Bool.noConfusion hc | (simp only [decide_eq_true_eq, decide_eq_false_iff_not, Bool.not_eq_true', Bool.not_eq_false', beq_iff_eq, beq_eq_false_iff_ne, bne_iff_ne, bne_eq_false_iff_eq, Bool.true_eq_false, Bool.false_eq_true] at hc) | skip)) | (refine And.intro (by first | decide | omega | (dsimp only; omega) | exact ⟨by assumption, by omega, by omega⟩ | exact u32r _) ?_) | (apply And.intro))
                        refine ⟨⟨4, upd L5 4 z, by omega, r5_hear hL5 (by omega) hnm (hFr 4 (by omega)) hz' hsd.1⟩, by show 5 - 4 < 5 - 3; omega, ?_, ?_⟩
                        · repeat' (first | exact trivial | exact rfl | exact leF_int rfl | exact leF_ptr rfl | exact leN_cells | refine leN_upd rfl ?_ | exact leC_slI (by assumption) | refine leF_int ?_ | refine leF_bool ?_ | refine leN_all ?_ | refine leC_int ?_ | refine leC_bool ?_ | apply And.intro)
                        · repeat' (first | exact trivial | exact rfl | exact leF_int rfl | exact leF_ptr rfl | exact leN_cells | refine leN_upd rfl ?_ | exact leC_slI (by assumption) | refine leF_int ?_ | refine leF_bool ?_ | refine leN_all ?_ | refine leC_int ?_ | refine leC_bool ?_ | apply And.intro)
                      | false =>
                        have hsd : ¬ (t = f0 ∧ F 3 = f0) := by simpa [hsn] using (hsd0 3 (by omega)).symm
                        repeat' (first | (apply And.intro <;> intro hc <;> (first | exact Bool.noConfusion hc | (exfalso; simp [hsn] at hc; done) | (simp only [ hsn, decide_eq_true_eq, decide_eq_false_iff_not, Bool.not_eq_true', Bool.not_eq_false', beq_iff_eq, beq_eq_false_iff_ne, bne_iff_ne, bne_eq_false_iff_eq, Bool.true_eq_false, Bool.false_eq_true, ne_eq, not_true_eq_false, not_false_eq_true] at hc <;> first | (exfalso; omega) | skip) | skip)) | (refine And.intro (by first | decide | omega | (dsimp only; omega) | exact ⟨by assumption, by omega, by omega⟩ | exact u32r _ | assumption) ?_) | (apply And.intro))
                        refine ⟨⟨4, L5, by omega, r5_same hL5 (fun _ => hsd)⟩, by show 5 - 4 < 5 - 3; omega, ?_, ?_⟩
                        · repeat' (first | exact trivial | exact rfl | exact leF_int rfl | exact leF_ptr rfl | exact leN_cells | refine leN_upd rfl ?_ | exact leC_slI (by assumption) | refine leF_int ?_ | refine leF_bool ?_ | refine leN_all ?_ | refine leC_int ?_ | refine leC_bool ?_ | apply And.intro)
                        · repeat' (first | exact trivial | exact rfl | exact leF_int rfl | exact leF_ptr rfl | exact leN_cells | refine leN_upd rfl ?_ | exact leC_slI (by assumption) | refine leF_int ?_ | refine leF_bool ?_ | refine leN_all ?_ | refine leC_int ?_ | refine leC_bool ?_ | apply And.intro)
                    · cases hsn : sd 4 with
                      | true =>
                        have hsd : t = f0 ∧ F 4 = f0 := by simpa [hsn] using (hsd0 4 (by omega)).symm
                        repeat' (first | (apply And.intro <;> intro hc <;> (first | exact Bool.noConfusion hc | (exfalso; simp [hsn] at hc; done) | (simp only [ hsn, decide_eq_true_eq, decide_eq_false_iff_not, Bool.not_eq_true', Bool.not_eq_false', beq_iff_eq, beq_eq_false_iff_ne, bne_iff_ne, bne_eq_false_iff_eq, Bool.true_eq_false, Bool.false_eq_true, ne_eq, not_true_eq_false, not_false_eq_true] at hc <;> first | (exfalso; omega) | skip) | skip)) | (refine And.intro (by first | decide | omega | (dsimp only; omega) | exact ⟨by assumption, by omega, by omega⟩ | exact u32r _ | assumption) ?_) | (apply And.intro))
                        refine ⟨⟨5, L5, by omega, r5_same hL5 (fun h => absurd rfl h)⟩, by show 5 - 5 < 5 - 4; omega, ?_, ?_⟩
                        · repeat' (first | exact trivial | exact rfl | exact leF_int rfl | exact leF_ptr rfl | exact leN_cells | refine leN_upd rfl ?_ | exact leC_slI (by assumption) | refine leF_int ?_ | refine leF_bool ?_ | refine leN_all ?_ | refine leC_int ?_ | refine leC_bool ?_ | apply And.intro)
                        · repeat' (first | exact trivial | exact rfl | exact leF_int rfl | exact leF_ptr rfl | exact leN_cells | refine leN_upd rfl ?_ | exact leC_slI (by assumption) | refine leF_int ?_ | refine leF_bool ?_ | refine leN_all ?_ | refine leC_int ?_ | refine leC_bool ?_ | apply And.intro)
                      | false =>
                        have hsd : ¬ (t = f0 ∧ F 4 = f0) := by simpa [hsn] using (hsd0 4 (by omega)).symm
                        repeat' (first | (apply And.intro <;> intro hc <;> (first | exact Bool.noConfusion hc | (exfalso; simp [hsn] at hc; done) | (simp only [ hsn, decide_eq_true_eq, decide_eq_false_iff_not, Bool.not_eq_true', Bool.not_eq_false', beq_iff_eq, beq_eq_false_iff_ne, bne_iff_ne, bne_eq_false_iff_eq, Bool.true_eq_false, Bool.false_eq_true, ne_eq, not_true_eq_false, not_false_eq_true] at hc <;> first | (exfalso; omega) | skip) | skip)) | (refine And.intro (by first | decide | omega | (dsimp only; omega) | exact ⟨by assumption, by omega, by omega⟩ | exact u32r _ | assumption) ?_) | (apply And.intro))
                        refine ⟨⟨5, L5, by omega, r5_same hL5 (fun _ => hsd)⟩, by show 5 - 5 < 5 - 4; omega, ?_, ?_⟩
                        · repeat' (first | exact trivial | exact rfl | exact leF_int rfl | exact leF_ptr rfl | exact leN_cells | refine leN_upd rfl ?_ | exact leC_slI (by assumption) | refine leF_int ?_ | refine leF_bool ?_ | refine leN_all ?_ | refine leC_int ?_ | refine leC_bool ?_ | apply And.intro)
                        · repeat' (first | exact trivial | exact rfl | exact leF_int rfl | exact leF_ptr rfl | exact leN_cells | refine leN_upd rfl ?_ | exact leC_slI (by assumption) | refine leF_int ?_ | refine leF_bool ?_ | refine leN_all ?_ | refine leC_int ?_ | refine leC_bool ?_ | apply And.intro)
                    · repeat' (first | (apply And.intro <;> intro hc <;> (first | exact Bool.noConfusion hc | (simp only [decide_eq_true_eq, decide_eq_false_iff_not, Bool.not_eq_true', Bool.not_eq_false', beq_iff_eq, beq_eq_false_iff_ne, bne_iff_ne, bne_eq_false_iff_eq, Bool.true_eq_false, Bool.false_eq_true] at hc) | skip)) | (refine And.intro (by first | decide | omega | (dsimp only; omega) | exact ⟨by assumption, by omega, by omega⟩ | exact u32r _) ?_) | (apply And.intro))
                      refine ⟨⟨5, L5, by omega, r5_end hL5⟩, by show 5 - 5 < 5 - 4; omega, ?_, ?_⟩
                      · repeat' (first | exact trivial | exact rfl | exact leF_int rfl | exact leF_ptr rfl | exact leN_cells | refine leN_upd rfl ?_ | exact leC_slI (by assumption) | refine leF_int ?_ | refine leF_bool ?_ | refine leN_all ?_ | refine leC_int ?_ | refine leC_bool ?_ | apply And.intro)
                      · repeat' (first | exact trivial | exact rfl | exact leF_int rfl | exact leF_ptr rfl | exact leN_cells | refine leN_upd rfl ?_ | exact leC_slI (by assumption) | refine leF_int ?_ | refine leF_bool ?_ | refine leN_all ?_ | refine leC_int ?_ | refine leC_bool ?_ | apply And.intro)
                  · repeat' (first | exact trivial | exact rfl | exact leF_int rfl | exact leF_ptr rfl | exact leN_cells | refine leN_upd rfl ?_ | exact leC_slI (by assumption) | refine leF_int ?_ | refine leF_bool ?_ | refine leN_all ?_ | refine leC_int ?_ | refine leC_bool ?_ | apply And.intro)
                  · repeat' (first | exact trivial | exact rfl | exact leF_int rfl | exact leF_ptr rfl | exact leN_cells | refine leN_upd rfl ?_ | exact leC_slI (by assumption) | refine leF_int ?_ | refine leF_bool ?_ | refine leN_all ?_ | refine leC_int ?_ | refine leC_bool ?_ | apply And.intro)
                · repeat' (first | (apply And.intro <;> intro hc <;> (first | exact Bool.noConfusion hc | (simp only [decide_eq_true_eq, decide_eq_false_iff_not, Bool.not_eq_true', Bool.not_eq_false', beq_iff_eq, beq_eq_false_iff_ne, bne_iff_ne, bne_eq_false_iff_eq, Bool.true_eq_false, Bool.false_eq_true] at hc) | skip)) | (refine And.intro (by first | decide | omega | (dsimp only; omega) | exact ⟨by assumption, by omega, by omega⟩ | exact u32r _) ?_) | (apply And.intro))
                  refine ⟨⟨t + 1, L4', by omega, s4_end hL4 hex⟩, by show (n + m - (t + 1)).toNat < (n + m - t).toNat; omega, ?_, ?_⟩
                  · repeat' (first | exact trivial | exact rfl | exact leF_int rfl | exact leF_ptr rfl | exact leN_cells | refine leN_upd rfl ?_ | exact leC_slI (by assumption) | refine leF_int ?_ | refine leF_bool ?_ | refine leN_all ?_ | refine leC_int ?_ | refine leC_bool ?_ | apply And.intro)
                    exact IntWalk.i64_in _ (by omega)
                  · repeat' (first | exact trivial | exact rfl | exact leF_int rfl | exact leF_ptr rfl | exact leN_cells | refine leN_upd rfl ?_ | exact leC_slI (by assumption) | refine leF_int ?_ | refine leF_bool ?_ | refine leN_all ?_ | refine leC_int ?_ | refine leC_bool ?_ | apply And.intro)
              · repeat' (first | exact trivial | exact rfl | exact leF_int rfl | exact leF_ptr rfl | exact leN_cells | refine leN_upd rfl ?_ | exact leC_slI (by assumption) | refine leF_int ?_ | refine leF_bool ?_ | refine leN_all ?_ | refine leC_int ?_ | refine leC_bool ?_ | apply And.intro)
              · repeat' (first | exact trivial | exact rfl | exact leF_int rfl | exact leF_ptr rfl | exact leN_cells | refine leN_upd rfl ?_ | exact leC_slI (by assumption) | refine leF_int ?_ | refine leF_bool ?_ | refine leN_all ?_ | refine leC_int ?_ | refine leC_bool ?_ | apply And.intro)
          · repeat' (first | exact trivial | exact rfl | exact leF_int rfl | exact leF_ptr rfl | exact leN_cells | refine leN_upd rfl ?_ | exact leC_slI (by assumption) | refine leF_int ?_ | refine leF_bool ?_ | refine leN_all ?_ | refine leC_int ?_ | refine leC_bool ?_ | apply And.intro)
          · repeat' (first | exact trivial | exact rfl | exact leF_int rfl | exact leF_ptr rfl | exact leN_cells | refine leN_upd rfl ?_ | exact leC_slI (by assumption) | refine leF_int ?_ | refine leF_bool ?_ | refine leN_all ?_ | refine leC_int ?_ | refine leC_bool ?_ | apply And.intro)
        · exact Fin.mk (leF_bool rfl)
      · repeat' (first | exact trivial | exact rfl | exact leF_int rfl | exact leF_ptr rfl | exact leN_cells | refine leN_upd rfl ?_ | exact leC_slI (by assumption) | refine leF_int ?_ | refine leF_bool ?_ | refine leN_all ?_ | refine leC_int ?_ | refine leC_bool ?_ | apply And.intro)
      · repeat' (first | exact trivial | exact rfl | exact leF_int rfl | exact leF_ptr rfl | exact leN_cells | refine leN_upd rfl ?_ | exact leC_slI (by assumption) | refine leF_int ?_ | refine leF_bool ?_ | refine leN_all ?_ | refine leC_int ?_ | refine leC_bool ?_ | apply And.intro)
  · repeat' (first | exact trivial | exact rfl | exact leF_int rfl | exact leF_ptr rfl | exact leN_cells | refine leN_upd rfl ?_ | exact leC_slI (by assumption) | refine leF_int ?_ | refine leF_bool ?_ | refine leN_all ?_ | refine leC_int ?_ | refine leC_bool ?_ | apply And.intro)
    · exact hn1
    · exact hm1
  · repeat' (first | exact trivial | exact rfl | exact leF_int rfl | exact leF_ptr rfl | exact leN_cells | refine leN_upd rfl ?_ | exact leC_slI (by assumption) | refine leF_int ?_ | refine leF_bool ?_ | refine leN_all ?_ | refine leC_int ?_ | refine leC_bool ?_ | apply And.intro)
end Go.Proofs.Ytolliidpmgncdaa.AX
