/- Plain laws of packets and their encodings: no program in sight. (Printed by gen/pkp.py.) -/
import Derived.Test.YtjknkfjhcapocaaPk5
import Derived.Laws.BitsAllLaws
namespace Go.Proofs.Ytjknkfjhcapocaa.AX
open Go.RowKit
set_option linter.unusedVariables false
set_option linter.unusedSimpArgs false
theorem beB4 (v : Int) : beB v 4 = [v / 16777216 % 256, v / 65536 % 256, v / 256 % 256, v % 256] := by
  simp [beB, beN]
theorem beB2 (v : Int) : beB v 2 = [v / 256 % 256, v % 256] := by
  simp [beB, beN]
theorem ipL_list (a : Fin 16 → Int) : ipL a = [vget a 0, vget a 1, vget a 2, vget a 3, vget a 4, vget a 5, vget a 6, vget a 7, vget a 8, vget a 9, vget a 10, vget a 11, vget a 12, vget a 13, vget a 14, vget a 15] := rfl
def hdL (p : Pkt) : List Int := [(1610612736 + p.1.cls * 1048576 + p.1.flow) / 16777216 % 256, (1610612736 + p.1.cls * 1048576 + p.1.flow) / 65536 % 256, (1610612736 + p.1.cls * 1048576 + p.1.flow) / 256 % 256, (1610612736 + p.1.cls * 1048576 + p.1.flow) % 256, (sizeP p - 40) / 256 % 256, (sizeP p - 40) % 256, p.1.nxt, p.1.hops, vget p.1.src 0, vget p.1.src 1, vget p.1.src 2, vget p.1.src 3, vget p.1.src 4, vget p.1.src 5, vget p.1.src 6, vget p.1.src 7, vget p.1.src 8, vget p.1.src 9, vget p.1.src 10, vget p.1.src 11, vget p.1.src 12, vget p.1.src 13, vget p.1.src 14, vget p.1.src 15, vget p.1.dst 0, vget p.1.dst 1, vget p.1.dst 2, vget p.1.dst 3, vget p.1.dst 4, vget p.1.dst 5, vget p.1.dst 6, vget p.1.dst 7, vget p.1.dst 8, vget p.1.dst 9, vget p.1.dst 10, vget p.1.dst 11, vget p.1.dst 12, vget p.1.dst 13, vget p.1.dst 14, vget p.1.dst 15]
def ulL (p : Pkt) (s : Int) : List Int := [p.1.sp / 256 % 256, p.1.sp % 256, p.1.dp / 256 % 256, p.1.dp % 256, (sizeP p - 40) / 256 % 256, (sizeP p - 40) % 256, s / 256 % 256, s % 256]
theorem encB_hd (p : Pkt) (s : Int) : encB p s = hdL p ++ ((if p.1.nxt = 17 then ulL p s else []) ++ p.2) := by
  unfold encB
  rw [beB4, beB2, ipL_list, ipL_list]
  by_cases h : p.1.nxt = 17
  · rw [if_pos h, if_pos h, beB2, beB2, beB2]; rfl
  · rw [if_neg h, if_neg h]; rfl
theorem split40 {b : List Int} (h : 40 ≤ b.length) : b = [b.getD 0 default, b.getD 1 default, b.getD 2 default, b.getD 3 default, b.getD 4 default, b.getD 5 default, b.getD 6 default, b.getD 7 default, b.getD 8 default, b.getD 9 default, b.getD 10 default, b.getD 11 default, b.getD 12 default, b.getD 13 default, b.getD 14 default, b.getD 15 default, b.getD 16 default, b.getD 17 default, b.getD 18 default, b.getD 19 default, b.getD 20 default, b.getD 21 default, b.getD 22 default, b.getD 23 default, b.getD 24 default, b.getD 25 default, b.getD 26 default, b.getD 27 default, b.getD 28 default, b.getD 29 default, b.getD 30 default, b.getD 31 default, b.getD 32 default, b.getD 33 default, b.getD 34 default, b.getD 35 default, b.getD 36 default, b.getD 37 default, b.getD 38 default, b.getD 39 default] ++ b.drop 40 := by
  have e : b.take 40 = (List.range 40).map fun i => b.getD i default := by
    apply List.ext_getElem
    · simp; omega
    · intro i h1 h2
      simp only [List.getElem_take, List.getElem_map, List.getElem_range, List.getD_eq_getElem?_getD]
      rw [List.getElem?_eq_getElem (by simp at h1; omega)]; rfl
  conv => lhs; rw [← List.take_append_drop 40 b, e]
  rfl
theorem split48 {b : List Int} (h : 48 ≤ b.length) : b.drop 40 = [b.getD 40 default, b.getD 41 default, b.getD 42 default, b.getD 43 default, b.getD 44 default, b.getD 45 default, b.getD 46 default, b.getD 47 default] ++ b.drop 48 := by
  have e : (b.drop 40).take 8 = (List.range 8).map fun i => b.getD (40 + i) default := by
    apply List.ext_getElem
    · simp; omega
    · intro i h1 h2
      simp only [List.getElem_take, List.getElem_map, List.getElem_range, List.getD_eq_getElem?_getD, List.getElem_drop]
      rw [List.getElem?_eq_getElem (by simp at h1; omega)]; rfl
  conv => lhs; rw [← List.take_append_drop 8 (b.drop 40), e, List.drop_drop]
  rfl
theorem take4_at {b : List Int} {a : Nat} (h : a + 4 ≤ b.length) : (b.drop a).take 4 = [b.getD a default, b.getD (a + 1) default, b.getD (a + 2) default, b.getD (a + 3) default] := by
  have e : (b.drop a).take 4 = (List.range 4).map fun i => b.getD (a + i) default := by
    apply List.ext_getElem
    · simp; omega
    · intro i h1 h2
      simp only [List.getElem_take, List.getElem_map, List.getElem_range, List.getD_eq_getElem?_getD, List.getElem_drop]
      rw [List.getElem?_eq_getElem (by simp at h1; omega)]; rfl
  exact e
theorem take2_at {b : List Int} {a : Nat} (h : a + 2 ≤ b.length) : (b.drop a).take 2 = [b.getD a default, b.getD (a + 1) default] := by
  have e : (b.drop a).take 2 = (List.range 2).map fun i => b.getD (a + i) default := by
    apply List.ext_getElem
    · simp; omega
    · intro i h1 h2
      simp only [List.getElem_take, List.getElem_map, List.getElem_range, List.getD_eq_getElem?_getD, List.getElem_drop]
      rw [List.getElem?_eq_getElem (by simp at h1; omega)]; rfl
  exact e
theorem uI_4 {b : List Int} (h : 4 ≤ b.length) : uI b 0 4 = b.getD 0 default * 16777216 + b.getD 1 default * 65536 + b.getD 2 default * 256 + b.getD 3 default := by
  unfold uI uintF
  rw [if_pos (by omega)]
  show beVal ((b.drop 0).take 4) = _
  rw [take4_at (by omega)]
  unfold beVal
  simp only [List.foldl_cons, List.foldl_nil, Nat.zero_add]
  omega
theorem uI_2 {b : List Int} {a : Int} {k : Nat} (e : a = k) (h : k + 2 ≤ b.length) : uI b a 2 = b.getD k default * 256 + b.getD (k + 1) default := by
  subst e
  unfold uI uintF
  rw [if_pos (by omega)]
  show beVal ((b.drop k).take 2) = _
  rw [take2_at h]
  unfold beVal
  simp only [List.foldl_cons, List.foldl_nil]
  omega
theorem and20 {x : Int} (h : 0 ≤ x ∧ x < 4294967296) : bits .and .u64 x 1048575 = x % 1048576 := by
  rw [u64_and x 1048575 h.1 (by omega) (by decide) (by decide)]
  rw [show (1048575 : Int).toNat = 2 ^ 20 - 1 from rfl, Nat.and_two_pow_sub_one_eq_mod]
  omega
theorem shr_lit (x : Int) (n : Nat) (h : n ≤ 64) : shrI .u64 x (n : Int) = x / 2 ^ n := by
  unfold shrI
  rw [show min (n : Int).toNat (IntKind.bits .u64) = n from by show min n 64 = n; omega]
  rw [Int.fdiv_eq_ediv_of_nonneg _ (by exact Int.le_of_lt (Int.pow_pos (by decide)))]
theorem shr28 (x : Int) : shrI .u64 x 28 = x / 268435456 := shr_lit x 28 (by decide)
theorem shr20 (x : Int) : shrI .u64 x 20 = x / 1048576 := shr_lit x 20 (by decide)
/-- The first four bytes of a header. -/
theorem first_iff {x0 x1 x2 x3 c f : Int} (h0 : 0 ≤ x0 ∧ x0 < 256) (h1 : 0 ≤ x1 ∧ x1 < 256) (h2 : 0 ≤ x2 ∧ x2 < 256) (h3 : 0 ≤ x3 ∧ x3 < 256)
    (hc : c = IntKind.u8.wrap (shrI .u64 (x0 * 16777216 + x1 * 65536 + x2 * 256 + x3) 20)) (hf : f = IntKind.u32.wrap (bits .and .u64 (x0 * 16777216 + x1 * 65536 + x2 * 256 + x3) 1048575)) :
    (shrI .u64 (x0 * 16777216 + x1 * 65536 + x2 * 256 + x3) 28 = 6 ↔ x0 = (1610612736 + c * 1048576 + f) / 16777216 % 256) ∧ x1 = (1610612736 + c * 1048576 + f) / 65536 % 256 ∧ x2 = (1610612736 + c * 1048576 + f) / 256 % 256 ∧ x3 = (1610612736 + c * 1048576 + f) % 256 ∧ (0 ≤ c ∧ c < 256) ∧ 0 ≤ f ∧ f < 1048576 := by
  rw [shr20] at hc
  rw [and20 (by omega), IntWalk.u32_in _ (by omega)] at hf
  rw [show ∀ z : Int, IntKind.u8.wrap z = z % 256 from fun z => by simp [IntKind.wrap, IntKind.signed, IntKind.bits]] at hc
  rw [shr28]
  omega
theorem pkF_nxt (b : List Int) : (pkF b).1.nxt = b.getD 6 default := by
  unfold pkF; split <;> rfl
theorem pkF_pay (b : List Int) : (pkF b).2 = if b.getD 6 default = 17 then b.drop 48 else b.drop 40 := by
  unfold pkF; split <;> rfl
theorem sizeP_pkF {b : List Int} (h : 40 ≤ b.length) (h2 : b.getD 6 default = 17 → 48 ≤ b.length) : sizeP (pkF b) = b.length := by
  unfold sizeP
  rw [pkF_nxt, pkF_pay]
  split
  · have := h2 (by assumption)
    rw [List.length_drop]; omega
  · rw [List.length_drop]; omega
theorem hd1_F {b : List Int} {sp dp : Int} (hb : BL b) (h : 40 ≤ b.length) :
    (0 ≤ (hd1 b sp dp).cls ∧ (hd1 b sp dp).cls < 256) ∧ (0 ≤ (hd1 b sp dp).flow ∧ (hd1 b sp dp).flow < 1048576) := by
  have := (first_iff (hb.get 0) (hb.get 1) (hb.get 2) (hb.get 3) rfl rfl).2.2.2.2
  rw [← uI_4 (by omega)] at this
  exact this
theorem u16_2 {x y : Int} (hx : 0 ≤ x ∧ x < 256) (hy : 0 ≤ y ∧ y < 256) : IntKind.u16.wrap (x * 256 + y) = x * 256 + y := IntWalk.u16_in _ (by omega)
/-- The numbers of a decoded packet are in their ranges. -/
theorem pkF_w {b : List Int} (hb : BL b) (h : 40 ≤ b.length) : PkW (pkF b) := by
  have hv : ∀ o i, 0 ≤ vget (fun q : Fin 16 => b.getD (o + q.1) default) i ∧ vget (fun q : Fin 16 => b.getD (o + q.1) default) i < 256 := fun o i => by
    unfold vget
    split
    · exact hb.get _
    · omega
  have hw : ∀ z, 0 ≤ IntKind.u16.wrap z ∧ IntKind.u16.wrap z < 65536 := fun z => by
    simp only [IntKind.wrap, IntKind.signed, IntKind.bits]
    exact ⟨Int.emod_nonneg _ (by decide), Int.emod_lt_of_pos _ (by decide)⟩
  unfold pkF
  split
  · obtain ⟨c1, c2⟩ := hd1_F (sp := IntKind.u16.wrap (uI b 40 2)) (dp := IntKind.u16.wrap (uI b 42 2)) hb h
    exact ⟨c1, ⟨c2.1, Int.lt_trans c2.2 (by decide)⟩, hb.get 6, hb.get 7, hv 8, hv 24, hw _, hw _, hb.drop 48⟩
  · obtain ⟨c1, c2⟩ := hd1_F (sp := 0) (dp := 0) hb h
    exact ⟨c1, ⟨c2.1, Int.lt_trans c2.2 (by decide)⟩, hb.get 6, hb.get 7, hv 8, hv 24, ⟨Int.le_refl _, (by show (0 : Int) < 65536; decide)⟩, ⟨Int.le_refl _, (by show (0 : Int) < 65536; decide)⟩, hb.drop 40⟩
theorem len_w {n : Nat} (h : 40 ≤ n ∧ n ≤ 1280) : IntKind.u64.wrap (IntKind.i64.wrap ((n : Int) - 40)) = n - 40 := by
  rw [IntWalk.i64_in _ (by omega)]
  exact IntWalk.u64_in _ (by omega)
/-- Where the header of a decoded packet is the bytes. -/
theorem hdL_pkF {b : List Int} (hb : BL b) (h : 40 ≤ b.length ∧ b.length ≤ 1280) (h2 : b.getD 6 default = 17 → 48 ≤ b.length) :
    hdL (pkF b) = b.take 40 ↔ shrI .u64 (uI b 0 4) 28 = 6 ∧ uI b 4 2 = IntKind.u64.wrap (IntKind.i64.wrap (b.length - 40)) := by
  have e40 : b.take 40 = [b.getD 0 default, b.getD 1 default, b.getD 2 default, b.getD 3 default, b.getD 4 default, b.getD 5 default, b.getD 6 default, b.getD 7 default, b.getD 8 default, b.getD 9 default, b.getD 10 default, b.getD 11 default, b.getD 12 default, b.getD 13 default, b.getD 14 default, b.getD 15 default, b.getD 16 default, b.getD 17 default, b.getD 18 default, b.getD 19 default, b.getD 20 default, b.getD 21 default, b.getD 22 default, b.getD 23 default, b.getD 24 default, b.getD 25 default, b.getD 26 default, b.getD 27 default, b.getD 28 default, b.getD 29 default, b.getD 30 default, b.getD 31 default, b.getD 32 default, b.getD 33 default, b.getD 34 default, b.getD 35 default, b.getD 36 default, b.getD 37 default, b.getD 38 default, b.getD 39 default] := by
    conv => lhs; rw [split40 h.1]
    rfl
  rw [len_w h, uI_4 (by omega), uI_2 (a := 4) (k := 4) rfl (by omega), e40]
  have hs := sizeP_pkF h.1 h2
  have g0 := hb.get 0; have g1 := hb.get 1; have g2 := hb.get 2; have g3 := hb.get 3; have g4 := hb.get 4; have g5 := hb.get 5
  have hc : (pkF b).1.cls = IntKind.u8.wrap (shrI .u64 (uI b 0 4) 20) := by unfold pkF; split <;> rfl
  have hf : (pkF b).1.flow = IntKind.u32.wrap (bits .and .u64 (uI b 0 4) 1048575) := by unfold pkF; split <;> rfl
  rw [uI_4 (by omega)] at hc hf
  obtain ⟨f0, f1, f2, f3, fc, ff⟩ := first_iff g0 g1 g2 g3 hc hf
  have hsrc : (pkF b).1.src = fun q => b.getD (8 + q.1) default := by unfold pkF; split <;> rfl
  have hdst : (pkF b).1.dst = fun q => b.getD (24 + q.1) default := by unfold pkF; split <;> rfl
  have hhop := pkF_hops b
  have hnx := pkF_nxt b
  constructor
  · intro e
    unfold hdL at e
    rw [hs] at e
    simp only [List.cons.injEq] at e
    obtain ⟨k0, _, _, _, k4, k5, _⟩ := e
    refine ⟨f0.2 k0.symm, ?_⟩
    show b.getD 4 default * 256 + b.getD 5 default = _
    omega
  · rintro ⟨k0, k1⟩
    have k1' : b.getD 4 default * 256 + b.getD 5 default = (b.length : Int) - 40 := k1
    unfold hdL
    rw [hsrc, hdst, hhop, hnx, hs, ← f0.1 k0, ← f1, ← f2, ← f3]
    rw [show ((b.length : Int) - 40) / 256 % 256 = b.getD 4 default by omega, show ((b.length : Int) - 40) % 256 = b.getD 5 default by omega]
    rfl
theorem app_iff {a b c d : List Int} (h : a.length = b.length) : a ++ c = b ++ d ↔ a = b ∧ c = d :=
  ⟨fun e => List.append_inj e h, fun ⟨e1, e2⟩ => by rw [e1, e2]⟩
/-- A decoded packet is encoded to the same bytes where the version and the lengths are right. -/
theorem encB_pkF {b : List Int} (hb : BL b) (h : 40 ≤ b.length ∧ b.length ≤ 1280) (h2 : b.getD 6 default = 17 → 48 ≤ b.length) {s : Int} (hs : 0 ≤ s ∧ s < 65536) :
    encB (pkF b) s = b ↔ (shrI .u64 (uI b 0 4) 28 = 6 ∧ uI b 4 2 = IntKind.u64.wrap (IntKind.i64.wrap (b.length - 40))) ∧ (b.getD 6 default = 17 → uI b 44 2 = IntKind.u64.wrap (IntKind.i64.wrap (b.length - 40)) ∧ s = uI b 46 2) := by
  have hz := sizeP_pkF h.1 h2
  rw [← hdL_pkF hb h h2, encB_hd, pkF_nxt, pkF_pay]
  have hl : (hdL (pkF b)).length = (b.take 40).length := by rw [List.length_take]; show 40 = _; omega
  conv => lhs; rhs; rw [← List.take_append_drop 40 b]
  rw [app_iff hl]
  by_cases hu : b.getD 6 default = 17
  · rw [if_pos hu, if_pos hu]
    refine and_congr_right fun _ => ?_
    have h48 := h2 hu
    have g := fun i => hb.get i
    have a0 := hb.get 40; have a1 := hb.get 41; have a2 := hb.get 42; have a3 := hb.get 43; have a4 := hb.get 44; have a5 := hb.get 45; have a6 := hb.get 46; have a7 := hb.get 47
    have hsp : (pkF b).1.sp = b.getD 40 default * 256 + b.getD 41 default := by
      unfold pkF; rw [if_pos hu]
      show IntKind.u16.wrap (uI b 40 2) = _
      rw [uI_2 (a := 40) (k := 40) rfl (by omega)]; exact u16_2 a0 a1
    have hdp : (pkF b).1.dp = b.getD 42 default * 256 + b.getD 43 default := by
      unfold pkF; rw [if_pos hu]
      show IntKind.u16.wrap (uI b 42 2) = _
      rw [uI_2 (a := 42) (k := 42) rfl (by omega)]; exact u16_2 a2 a3
    rw [len_w h, uI_2 (a := 44) (k := 44) rfl (by omega), uI_2 (a := 46) (k := 46) rfl (by omega), split48 h48]
    unfold ulL
    rw [hsp, hdp, hz, List.append_cancel_right_eq]
    simp only [List.cons.injEq, and_true]
    constructor
    · rintro ⟨_, _, _, _, k4, k5, k6, k7⟩ _
      show b.getD 44 default * 256 + b.getD 45 default = _ ∧ _ = b.getD 46 default * 256 + b.getD 47 default
      omega
    · intro k
      obtain ⟨k1, k2⟩ := k hu
      have k1' : b.getD 44 default * 256 + b.getD 45 default = (b.length : Int) - 40 := k1
      have k2' : s = b.getD 46 default * 256 + b.getD 47 default := k2
      omega
  · rw [if_neg hu, if_neg hu, List.nil_append]
    exact ⟨fun h => ⟨h.1, fun k => absurd k hu⟩, fun h => ⟨h.1, rfl⟩⟩
/-- What a checksum covers: no checksum, and nothing of the first eight bytes. -/
def covL (p : Pkt) : List Int := [vget p.1.src 0, vget p.1.src 1, vget p.1.src 2, vget p.1.src 3, vget p.1.src 4, vget p.1.src 5, vget p.1.src 6, vget p.1.src 7, vget p.1.src 8, vget p.1.src 9, vget p.1.src 10, vget p.1.src 11, vget p.1.src 12, vget p.1.src 13, vget p.1.src 14, vget p.1.src 15, vget p.1.dst 0, vget p.1.dst 1, vget p.1.dst 2, vget p.1.dst 3, vget p.1.dst 4, vget p.1.dst 5, vget p.1.dst 6, vget p.1.dst 7, vget p.1.dst 8, vget p.1.dst 9, vget p.1.dst 10, vget p.1.dst 11, vget p.1.dst 12, vget p.1.dst 13, vget p.1.dst 14, vget p.1.dst 15] ++ (beB (sizeP p - 40) 4 ++ ([0, 0, 0, 17] ++ ([p.1.sp / 256 % 256, p.1.sp % 256, p.1.dp / 256 % 256, p.1.dp % 256, (sizeP p - 40) / 256 % 256, (sizeP p - 40) % 256] ++ ([0, 0] ++ p.2))))
theorem cover_enc {p : Pkt} (h : p.1.nxt = 17) (s : Int) : coverB (encB p s) = covL p := by
  unfold coverB
  rw [encB_len, encB_hd, if_pos h]
  rfl
theorem cover_b {b : List Int} (h : 48 ≤ b.length) {c : List Int} (hc : b.drop 8 = c.drop 8) (hl : b.length = c.length) : coverB b = coverB c := by
  unfold coverB
  rw [show b.drop 40 = (b.drop 8).drop 32 by rw [List.drop_drop], show b.drop 48 = (b.drop 8).drop 40 by rw [List.drop_drop], hc, hl, List.drop_drop, List.drop_drop]
theorem sumP_covL {p : Pkt} (hv : validP p = true) (h : p.1.nxt = 17) : sumP p = sum0 (covL p) := by
  unfold sumP
  rw [if_pos ⟨hv, h⟩, cover_enc h]
theorem sum0_pos (l : List Int) : sum0 l ≠ 0 := by
  unfold sum0
  split
  · decide
  · assumption
/-- The fields of an encoding. -/
theorem pkF_enc {p : Pkt} (hw : PkW p) (hv : validP p = true) {s : Int} (hs : 0 ≤ s ∧ s < 65536) : pkF (encB p s) = p := by
  have h1 := hw.cls; have h2 := hw.flow
  have hfl : p.1.flow < 1048576 := by
    unfold validP at hv
    simp only [Bool.and_eq_true, decide_eq_true_eq] at hv
    have := hv.1.1.1
    omega
  have hz := valid_size hv
  have hl := encB_len p s
  have hz0 : 40 ≤ sizeP p := by unfold sizeP; split <;> omega
  have hF : uI (encB p s) 0 4 = 1610612736 + p.1.cls * 1048576 + p.1.flow := by
    rw [uI_4 (by omega), encB_hd]
    show (1610612736 + p.1.cls * 1048576 + p.1.flow) / 16777216 % 256 * 16777216 + (1610612736 + p.1.cls * 1048576 + p.1.flow) / 65536 % 256 * 65536 + (1610612736 + p.1.cls * 1048576 + p.1.flow) / 256 % 256 * 256 + (1610612736 + p.1.cls * 1048576 + p.1.flow) % 256 = _
    omega
  have hcls : IntKind.u8.wrap (shrI .u64 (uI (encB p s) 0 4) 20) = p.1.cls := by
    rw [hF, shr20, show ∀ z : Int, IntKind.u8.wrap z = z % 256 from fun z => by simp [IntKind.wrap, IntKind.signed, IntKind.bits]]
    omega
  have hflow : IntKind.u32.wrap (bits .and .u64 (uI (encB p s) 0 4) 1048575) = p.1.flow := by
    rw [hF, and20 (by omega), IntWalk.u32_in _ (by omega)]
    omega
  have hn : (encB p s).getD 6 default = p.1.nxt := by rw [encB_hd]; rfl
  have hh : (encB p s).getD 7 default = p.1.hops := by rw [encB_hd]; rfl
  have hsrc : (fun q : Fin 16 => (encB p s).getD (8 + q.1) default) = p.1.src := by
    rw [encB_hd]
    funext q
    have hq := q.2
    obtain ⟨q, _⟩ := q
    iterate 16 (rcases q with _ | q; rfl)
    exact absurd hq (by omega)
  have hdst : (fun q : Fin 16 => (encB p s).getD (24 + q.1) default) = p.1.dst := by
    rw [encB_hd]
    funext q
    have hq := q.2
    obtain ⟨q, _⟩ := q
    iterate 16 (rcases q with _ | q; rfl)
    exact absurd hq (by omega)
  unfold pkF
  rw [hn]
  split
  · rename_i hu
    have h48 : sizeP p = 48 + p.2.length := by unfold sizeP; rw [if_pos hu]
    have hsp := hw.sp; have hdp := hw.dp
    have e1 : IntKind.u16.wrap (uI (encB p s) 40 2) = p.1.sp := by
      rw [uI_2 (a := 40) (k := 40) rfl (by omega), encB_hd, if_pos hu]
      show IntKind.u16.wrap (p.1.sp / 256 % 256 * 256 + p.1.sp % 256) = _
      rw [IntWalk.u16_in _ (by omega)]
      omega
    have e2 : IntKind.u16.wrap (uI (encB p s) 42 2) = p.1.dp := by
      rw [uI_2 (a := 42) (k := 42) rfl (by omega), encB_hd, if_pos hu]
      show IntKind.u16.wrap (p.1.dp / 256 % 256 * 256 + p.1.dp % 256) = _
      rw [IntWalk.u16_in _ (by omega)]
      omega
    have e3 : (encB p s).drop 48 = p.2 := by rw [encB_hd, if_pos hu]; rfl
    unfold pkU hd1
    rw [hcls, hflow, hn, hh, hsrc, hdst, e1, e2, e3]
  · rename_i hu
    have e3 : (encB p s).drop 40 = p.2 := by rw [encB_hd, if_neg hu]; rfl
    have hp : p.1.sp = 0 ∧ p.1.dp = 0 := by
      unfold validP at hv
      simp only [Bool.and_eq_true, Bool.or_eq_true, decide_eq_true_eq] at hv
      rcases hv.2 with h | h
      · exact absurd h hu
      · exact h
    unfold pkN hd1
    rw [hcls, hflow, hn, hh, hsrc, hdst, e3]
    calc _ = ((⟨p.1.cls, p.1.flow, p.1.nxt, p.1.hops, p.1.src, p.1.dst, p.1.sp, p.1.dp⟩, p.2) : Pkt) := by rw [hp.1, hp.2]
      _ = p := rfl
end Go.Proofs.Ytjknkfjhcapocaa.AX
