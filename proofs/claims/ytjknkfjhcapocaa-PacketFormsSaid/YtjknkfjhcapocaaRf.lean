/- The reference of layer 4 (bits, masks, prefixes), by AX2; its plain laws. -/
import Derived.Test.YtjknkfjhcapocaaTp
import Derived.Test.YtjknkfjhcapocaaCt3
namespace Go.Proofs.Ytjknkfjhcapocaa.AX
open Go.RowKit
set_option linter.unusedVariables false
set_option linter.unusedSimpArgs false
/-! ### Bytes -/
def bt (x : Int) (j : Int) : Int := bits .and .u8 (shrI .u8 x (7 - j)) 1
def mb (x : Int) (k : Int) : Int := bits .andNot .u8 x (shrI .u8 255 k)
theorem byt_step : ∀ x : Fin 256, ∀ k : Fin 8, bits .or .u8 (mb (x.1 : Nat) (k.1 : Nat)) (shlI .u8 (bt (x.1 : Nat) (k.1 : Nat)) (7 - (k.1 : Nat))) = mb (x.1 : Nat) ((k.1 : Nat) + 1) := by decide +kernel
theorem byt_zero : ∀ x : Fin 256, mb (x.1 : Nat) 0 = 0 := by decide +kernel
theorem byt_rng : ∀ x : Fin 256, ∀ k : Fin 9, 0 ≤ mb (x.1 : Nat) (k.1 : Nat) ∧ mb (x.1 : Nat) (k.1 : Nat) < 256 := by decide +kernel
theorem byt_bit : ∀ x : Fin 256, ∀ k : Fin 9, ∀ j : Fin 8, bt (mb (x.1 : Nat) (k.1 : Nat)) (j.1 : Nat) = if j.1 < k.1 then bt (x.1 : Nat) (j.1 : Nat) else 0 := by decide +kernel
theorem byt_sum : ∀ x : Fin 256, ((x.1 : Nat) : Int) = bt (x.1 : Nat) 0 * 128 + bt (x.1 : Nat) 1 * 64 + bt (x.1 : Nat) 2 * 32 + bt (x.1 : Nat) 3 * 16 + bt (x.1 : Nat) 4 * 8 + bt (x.1 : Nat) 5 * 4 + bt (x.1 : Nat) 6 * 2 + bt (x.1 : Nat) 7 := by decide +kernel
structure byteOk (a : Fin 16 → Int) : Prop where
  q : ∀ q, 0 ≤ a q ∧ a q < 256
theorem byte_nat {x : Int} (h : 0 ≤ x ∧ x < 256) : ∃ y : Fin 256, x = (y.1 : Nat) := ⟨⟨x.toNat, by omega⟩, by show x = (x.toNat : Int); omega⟩
def bitF (a : Fin 16 → Int) (i : Nat) : Int := bt (vget a (i / 8)) ((i % 8 : Nat) : Int)
theorem byteOk.v {a : Fin 16 → Int} (h : byteOk a) (j : Nat) : 0 ≤ vget a j ∧ vget a j < 256 := by
  unfold vget
  split
  · exact h.q _
  · omega
theorem byte_ext {x y : Int} (hx : 0 ≤ x ∧ x < 256) (hy : 0 ≤ y ∧ y < 256) (h : ∀ j, j < 8 → bt x (j : Nat) = bt y (j : Nat)) : x = y := by
  obtain ⟨x, rfl⟩ := byte_nat hx
  obtain ⟨y, rfl⟩ := byte_nat hy
  rw [byt_sum x, byt_sum y]
  have h0 := h 0 (by omega)
  have h1 := h 1 (by omega)
  have h2 := h 2 (by omega)
  have h3 := h 3 (by omega)
  have h4 := h 4 (by omega)
  have h5 := h 5 (by omega)
  have h6 := h 6 (by omega)
  have h7 := h 7 (by omega)
  rw [show bt (x.1 : Nat) 0 = bt (y.1 : Nat) 0 from h0, show bt (x.1 : Nat) 1 = bt (y.1 : Nat) 1 from h1, show bt (x.1 : Nat) 2 = bt (y.1 : Nat) 2 from h2, show bt (x.1 : Nat) 3 = bt (y.1 : Nat) 3 from h3, show bt (x.1 : Nat) 4 = bt (y.1 : Nat) 4 from h4, show bt (x.1 : Nat) 5 = bt (y.1 : Nat) 5 from h5, show bt (x.1 : Nat) 6 = bt (y.1 : Nat) 6 from h6, show bt (x.1 : Nat) 7 = bt (y.1 : Nat) 7 from h7]
theorem ip_ext {a b : Fin 16 → Int} (ha : byteOk a) (hb : byteOk b) (h : ∀ i, i < 128 → bitF a i = bitF b i) : a = b := by
  funext q
  refine byte_ext (ha.q q) (hb.q q) fun j hj => ?_
  have := h (8 * q.1 + j) (by omega)
  unfold bitF at this
  rw [show (8 * q.1 + j) / 8 = q.1 by omega, show (8 * q.1 + j) % 8 = j by omega, vget_lt _ q.2, vget_lt _ q.2] at this
  exact this
theorem keepAt_in (b : Int) (i : Nat) : ∃ k : Fin 9, keepAt b i = (k.1 : Nat) := by
  have := clampI_in (b - 8 * i) (lo := 0) (hi := 8) (by omega)
  exact ⟨⟨(keepAt b i).toNat, by unfold keepAt; omega⟩, by show keepAt b i = ((keepAt b i).toNat : Int); unfold keepAt; omega⟩
theorem mask_byteOk {a : Fin 16 → Int} (ha : byteOk a) (b : Int) : byteOk (maskP a b).ip := by
  refine ⟨fun q => ?_⟩
  show 0 ≤ mb (vget a q.1) (keepAt (clampI b 0 128) q.1) ∧ mb (vget a q.1) (keepAt (clampI b 0 128) q.1) < 256
  obtain ⟨x, hx⟩ := byte_nat (ha.v q.1)
  obtain ⟨k, hk⟩ := keepAt_in (clampI b 0 128) q.1
  rw [hx, hk]
  exact byt_rng x k
theorem mask_bit {a : Fin 16 → Int} (ha : byteOk a) {b : Int} (h0 : 0 ≤ b) (h1 : b ≤ 128) {i : Nat} (hi : i < 128) : bitF (maskP a b).ip i = if (i : Int) < b then bitF a i else 0 := by
  have hcl : clampI b 0 128 = b := by unfold clampI; split <;> split <;> omega
  unfold bitF
  rw [vget_lt _ (show i / 8 < 16 by omega)]
  show bt (mb (vget a (i / 8)) (keepAt (clampI b 0 128) (i / 8))) _ = _
  rw [hcl]
  obtain ⟨x, hx⟩ := byte_nat (ha.v (i / 8))
  obtain ⟨k, hk⟩ := keepAt_in b (i / 8)
  rw [hx, hk, byt_bit x k ⟨i % 8, by omega⟩]
  have e : (i % 8 < k.1) ↔ ((i : Int) < b) := by
    have : keepAt b (i / 8) = clampI (b - 8 * ((i / 8 : Nat) : Int)) 0 8 := rfl
    rw [this] at hk
    unfold clampI at hk
    split at hk <;> split at hk <;> omega
  by_cases h : i % 8 < k.1
  · rw [if_pos h, if_pos (e.1 h)]
  · rw [if_neg h, if_neg (fun h' => h (e.2 h'))]
theorem clamp_id {b : Int} (h0 : 0 ≤ b) (h1 : b ≤ 128) : clampI b 0 128 = b := by unfold clampI; split <;> split <;> omega
theorem mask_iff {a : Fin 16 → Int} {p : Pfx} (ha : byteOk a) (hp : byteOk p.ip) : maskP a p.bits = p ↔ (0 ≤ p.bits ∧ p.bits ≤ 128) ∧ ∀ i, i < 128 → bitF p.ip i = if (i : Int) < p.bits then bitF a i else 0 := by
  constructor
  · intro h
    have hb : (maskP a p.bits).bits = p.bits := by rw [h]
    have hb' : clampI p.bits 0 128 = p.bits := hb
    have := clampI_in p.bits (lo := 0) (hi := 128) (by omega)
    refine ⟨by omega, fun i hi => ?_⟩
    have hm := mask_bit ha (b := p.bits) (by omega) (by omega) hi
    rw [h] at hm
    exact hm
  · rintro ⟨⟨h0, h1⟩, h⟩
    have hip : (maskP a p.bits).ip = p.ip := ip_ext (mask_byteOk ha _) hp fun i hi => by rw [mask_bit ha h0 h1 hi, h i hi]
    have hbb : (maskP a p.bits).bits = p.bits := clamp_id h0 h1
    obtain ⟨pi, pb⟩ := p
    cases hm : maskP a pb with
    | mk x y =>
      simp only [hm] at hip hbb
      rw [hip, hbb]
theorem vpf_iff {p : Pfx} (hp : byteOk p.ip) : vpf p = true ↔ (0 ≤ p.bits ∧ p.bits ≤ 128) ∧ ∀ i : Nat, i < 128 → p.bits ≤ (i : Int) → bitF p.ip i = 0 := by
  unfold vpf
  simp only [Bool.and_eq_true, decide_eq_true_eq, pEq_iff]
  rw [mask_iff hp hp]
  constructor
  · rintro ⟨h, _, h2⟩
    refine ⟨h, fun i hi hb => ?_⟩
    have := h2 i hi
    rw [if_neg (by omega)] at this
    exact this
  · rintro ⟨h, h2⟩
    refine ⟨h, h, fun i hi => ?_⟩
    by_cases hb : (i : Int) < p.bits
    · rw [if_pos hb]
    · rw [if_neg hb]; exact h2 i hi (by omega)
theorem mask_vpf {a : Fin 16 → Int} (ha : byteOk a) (b : Int) : vpf (maskP a b) = true := by
  rw [vpf_iff (mask_byteOk ha b)]
  have hc := clampI_in b (lo := 0) (hi := 128) (by omega)
  have e : maskP a b = maskP a (clampI b 0 128) := by
    unfold maskP
    rw [clamp_id hc.1 hc.2]
  have eb : (maskP a b).bits = clampI b 0 128 := rfl
  refine ⟨by rw [eb]; exact hc, fun i hi h => ?_⟩
  rw [e, mask_bit ha hc.1 hc.2 hi, if_neg (by rw [eb] at h; omega)]
def cmn (a b : Fin 16 → Int) : Nat → Nat → Nat
  | 0, n => n
  | k + 1, n => if bitF a n = bitF b n then cmn a b k (n + 1) else n
theorem cmn_ge {a b : Fin 16 → Int} {m : Nat} : ∀ (k n : Nat), m ≤ cmn a b k n ↔ m ≤ n ∨ (m ≤ n + k ∧ ∀ i, n ≤ i → i < m → bitF a i = bitF b i) := by
  intro k
  induction k with
  | zero => intro n; simp only [cmn]; constructor
            · exact fun h => .inl h
            · rintro (h | h)
              · exact h
              · omega
  | succ k ih =>
    intro n
    simp only [cmn]
    by_cases h : bitF a n = bitF b n
    · rw [if_pos h, ih]
      constructor
      · rintro (h1 | ⟨h1, h2⟩)
        · by_cases h3 : m ≤ n
          · exact .inl h3
          · refine .inr ⟨by omega, fun i hi hm => ?_⟩
            have : i = n := by omega
            subst this; exact h
        · by_cases h3 : m ≤ n
          · exact .inl h3
          · refine .inr ⟨by omega, fun i hi hm => ?_⟩
            by_cases hin : i = n
            · subst hin; exact h
            · exact h2 i (by omega) hm
      · rintro (h1 | ⟨h1, h2⟩)
        · exact .inl (by omega)
        · by_cases h3 : m ≤ n + 1
          · exact .inl h3
          · exact .inr ⟨by omega, fun i hi hm => h2 i (by omega) hm⟩
    · rw [if_neg h]
      constructor
      · exact fun h => .inl h
      · rintro (h1 | ⟨h1, h2⟩)
        · exact h1
        · by_cases h3 : m ≤ n
          · exact h3
          · exact absurd (h2 n (Nat.le_refl _) (by omega)) h
theorem cmn_le {a b : Fin 16 → Int} : ∀ (k n : Nat), cmn a b k n ≤ n + k := by
  intro k
  induction k with
  | zero => intro n; simp [cmn]
  | succ k ih => intro n; simp only [cmn]; split
                 · have := ih (n + 1); omega
                 · omega
def common (a b : Fin 16 → Int) : Nat := cmn a b 128 0
def containsF (p : Pfx) (a : Fin 16 → Int) : Bool := pEq (maskP a p.bits) p
theorem contains_iff {p : Pfx} {a : Fin 16 → Int} (hp : byteOk p.ip) (ha : byteOk a) : (vpf p = true ∧ p.bits ≤ (common p.ip a : Int)) ↔ containsF p a = true := by
  unfold containsF
  rw [pEq_iff, mask_iff ha hp, vpf_iff hp]
  unfold common
  constructor
  · rintro ⟨⟨h, h2⟩, h3⟩
    refine ⟨h, fun i hi => ?_⟩
    have h4 : p.bits.toNat ≤ cmn p.ip a 128 0 := by omega
    rw [cmn_ge] at h4
    by_cases hb : (i : Int) < p.bits
    · rw [if_pos hb]
      rcases h4 with h4 | ⟨_, h4⟩
      · omega
      · exact h4 i (by omega) (by omega)
    · rw [if_neg hb]; exact h2 i hi (by omega)
  · rintro ⟨h, h2⟩
    refine ⟨⟨h, fun i hi hb => ?_⟩, ?_⟩
    · have := h2 i hi
      rw [if_neg (by omega)] at this
      exact this
    · have : p.bits.toNat ≤ cmn p.ip a 128 0 := by
        rw [cmn_ge]
        refine .inr ⟨by omega, fun i _ hi => ?_⟩
        have := h2 i (by omega)
        rw [if_pos (by omega)] at this
        exact this
      omega
end Go.Proofs.Ytjknkfjhcapocaa.AX
