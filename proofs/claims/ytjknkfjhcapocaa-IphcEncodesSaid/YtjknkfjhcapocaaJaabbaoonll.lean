/- Texts of one's own in one file: PkP, IhL, Tp2, IhP, Ad, Pv, Ih, BIn, R12, Ih2, Ih3, Ih4, PkM, PkQ, PkR, PkT, Ih5, Ra, Tp5, PkT2. -/
import Derived.Test.YtjknkfjhcapocaaJbhdnjmaflk
import Derived.Laws.BitsAllLaws
import Derived.Test.YtjknkfjhcapocaaJbcodmecmgl
/- Plain laws of packets and their encodings: no program in sight. (Printed by gen/pkp.py.) -/
namespace Go.Proofs.Ytjknkfjhcapocaa.AX
open Go.RowKit
set_option linter.unusedVariables false
set_option linter.unusedSimpArgs false
theorem beB4 (v : Int) : beB v 4 = [v / 16777216 % 256, v / 65536 % 256, v / 256 % 256, v % 256] := by
  simp [beB, beN]
theorem beB2 (v : Int) : beB v 2 = [v / 256 % 256, v % 256] := by
  simp [beB, beN]
theorem ipL_list (a : Fin 16 → Int) : ipL a = [vget a 0, vget a 1, vget a 2, vget a 3, vget a 4, vget a 5, vget a 6, vget a 7, vget a 8, vget a 9, vget a 10, vget a 11, vget a 12, vget a 13, vget a 14, vget a 15] := rfl
def hdL (p : Pkt) : List Int := [(1610612736 + p.1.cls * 1048576 + p.1.flow) / 16777216 % 256, (1610612736 + p.1.cls * 1048576 + p.1.flow) / 65536 % 256, (1610612736 + p.1.cls * 1048576 + p.1.flow) / 256 % 256, (1610612736 + p.1.cls * 1048576 + p.1.flow) % 256, (sizeP p - 40) / 256 % 256, (sizeP p - 40) % 256, p.1.nxt, p.1.hops, vget p.1.src 0, vget p.1.src 1, vget p.1.src 2, vget p.1.src 3, vget p.1.src 4, vget p.1.src 5, vget p.1.src 6, vget p.1.src 7, vget p.1.src 8, vget p.1.src 9, vget p.1.src 10, vget p.1.src 11, vget p.1.src 12, vget p.1.src 13, vget p.1.src 14, vget p.1.src 15, vget p.1.dst 0, vget p.1.dst 1, vget p.1.dst 2, vget p.1.dst 3, vget p.1.dst 4, vget p.1.dst 5, vget p.1.dst 6, vget p.1.dst 7, vget p.1.dst 8, vget p.1.dst 9, vget p.1.dst 10, vget p.1.dst 11, vget p.1.dst 12, vget p.1.dst 13, vget p.1.dst 14, vget p.1.dst 15]
def ulL (p : Pkt) (s : Int) : List Int := [p.1.sp / 256 % 256, p.1.sp % 256, p.1.dp / 256 % 256, p.1.dp % 256, (sizeP p - 40) / 256 % 256, (sizeP p - 40) % 256, s / 256 % 256, s % 256]
theorem encB_hd (p : Pkt) (s : Int) : encB p s = hdL p ++ ((if p.1.nxt = 17 then ulL p s else []) ++ p.2) := by
  unfold encB
  rw [beB4, beB2, ipL_list, ipL_list]
  by_cases h : p.1.nxt = 17
  · rw [if_pos h, if_pos h, beB2, beB2, beB2]; rfl
  · rw [if_neg h, if_neg h]; rfl
theorem split40 {b : List Int} (h : 40 ≤ b.length) : b = [b.getD 0 default, b.getD 1 default, b.getD 2 default, b.getD 3 default, b.getD 4 default, b.getD 5 default, b.getD 6 default, b.getD 7 default, b.getD 8 default, b.getD 9 default, b.getD 10 default, b.getD 11 default, b.getD 12 default, b.getD 13 default, b.getD 14 default, b.getD 15 default, b.getD 16 default, b.getD 17 default, b.getD 18 default, b.getD 19 default, b.getD 20 default, b.getD 21 default, b.getD 22 default, b.getD 23 default, b.getD 24 default, b.getD 25 default, b.getD 26 default, b.getD 27 default, b.getD 28 default, b.getD 29 default, b.getD 30 default, b.getD 31 default, b.getD 32 default, b.getD 33 default, b.getD 34 default, b.getD 35 default, b.getD 36 default, b.getD 37 default, b.getD 38 default, b.getD 39 default] ++ b.drop 40 := by
  have e : b.take 40 = (List.range 40).map fun i => b.getD i default := by
    apply List.ext_getElem
    · simp; omega
    · intro i h1 h2
      simp only [List.getElem_take, List.getElem_map, List.getElem_range, List.getD_eq_getElem?_getD]
      rw [List.getElem?_eq_getElem (by simp at h1; omega)]; rfl
  conv => lhs; rw [← List.take_append_drop 40 b, e]
  rfl
theorem split48 {b : List Int} (h : 48 ≤ b.length) : b.drop 40 = [b.getD 40 default, b.getD 41 default, b.getD 42 default, b.getD 43 default, b.getD 44 default, b.getD 45 default, b.getD 46 default, b.getD 47 default] ++ b.drop 48 := by
  have e : (b.drop 40).take 8 = (List.range 8).map fun i => b.getD (40 + i) default := by
    apply List.ext_getElem
    · simp; omega
    · intro i h1 h2
      simp only [List.getElem_take, List.getElem_map, List.getElem_range, List.getD_eq_getElem?_getD, List.getElem_drop]
      rw [List.getElem?_eq_getElem (by simp at h1; omega)]; rfl
  conv => lhs; rw [← List.take_append_drop 8 (b.drop 40), e, List.drop_drop]
  rfl
theorem take4_at {b : List Int} {a : Nat} (h : a + 4 ≤ b.length) : (b.drop a).take 4 = [b.getD a default, b.getD (a + 1) default, b.getD (a + 2) default, b.getD (a + 3) default] := by
  have e : (b.drop a).take 4 = (List.range 4).map fun i => b.getD (a + i) default := by
    apply List.ext_getElem
    · simp; omega
    · intro i h1 h2
      simp only [List.getElem_take, List.getElem_map, List.getElem_range, List.getD_eq_getElem?_getD, List.getElem_drop]
      rw [List.getElem?_eq_getElem (by simp at h1; omega)]; rfl
  exact e
theorem take2_at {b : List Int} {a : Nat} (h : a + 2 ≤ b.length) : (b.drop a).take 2 = [b.getD a default, b.getD (a + 1) default] := by
  have e : (b.drop a).take 2 = (List.range 2).map fun i => b.getD (a + i) default := by
    apply List.ext_getElem
    · simp; omega
    · intro i h1 h2
      simp only [List.getElem_take, List.getElem_map, List.getElem_range, List.getD_eq_getElem?_getD, List.getElem_drop]
      rw [List.getElem?_eq_getElem (by simp at h1; omega)]; rfl
  exact e
theorem uI_4 {b : List Int} (h : 4 ≤ b.length) : uI b 0 4 = b.getD 0 default * 16777216 + b.getD 1 default * 65536 + b.getD 2 default * 256 + b.getD 3 default := by
  unfold uI uintF
  rw [if_pos (by omega)]
  show beVal ((b.drop 0).take 4) = _
  rw [take4_at (by omega)]
  unfold beVal
  simp only [List.foldl_cons, List.foldl_nil, Nat.zero_add]
  omega
theorem uI_2 {b : List Int} {a : Int} {k : Nat} (e : a = k) (h : k + 2 ≤ b.length) : uI b a 2 = b.getD k default * 256 + b.getD (k + 1) default := by
  subst e
  unfold uI uintF
  rw [if_pos (by omega)]
  show beVal ((b.drop k).take 2) = _
  rw [take2_at h]
  unfold beVal
  simp only [List.foldl_cons, List.foldl_nil]
  omega
theorem and20 {x : Int} (h : 0 ≤ x ∧ x < 4294967296) : bits .and .u64 x 1048575 = x % 1048576 := by
  rw [u64_and x 1048575 h.1 (by omega) (by decide) (by decide)]
  rw [show (1048575 : Int).toNat = 2 ^ 20 - 1 from rfl, Nat.and_two_pow_sub_one_eq_mod]
  omega
theorem shr_lit (x : Int) (n : Nat) (h : n ≤ 64) : shrI .u64 x (n : Int) = x / 2 ^ n := by
  unfold shrI
  rw [show min (n : Int).toNat (IntKind.bits .u64) = n from by show min n 64 = n; omega]
  rw [Int.fdiv_eq_ediv_of_nonneg _ (by exact Int.le_of_lt (Int.pow_pos (by decide)))]
theorem shr28 (x : Int) : shrI .u64 x 28 = x / 268435456 := shr_lit x 28 (by decide)
theorem shr20 (x : Int) : shrI .u64 x 20 = x / 1048576 := shr_lit x 20 (by decide)
/-- The first four bytes of a header. -/
theorem first_iff {x0 x1 x2 x3 c f : Int} (h0 : 0 ≤ x0 ∧ x0 < 256) (h1 : 0 ≤ x1 ∧ x1 < 256) (h2 : 0 ≤ x2 ∧ x2 < 256) (h3 : 0 ≤ x3 ∧ x3 < 256)
    (hc : c = IntKind.u8.wrap (shrI .u64 (x0 * 16777216 + x1 * 65536 + x2 * 256 + x3) 20)) (hf : f = IntKind.u32.wrap (bits .and .u64 (x0 * 16777216 + x1 * 65536 + x2 * 256 + x3) 1048575)) :
    (shrI .u64 (x0 * 16777216 + x1 * 65536 + x2 * 256 + x3) 28 = 6 ↔ x0 = (1610612736 + c * 1048576 + f) / 16777216 % 256) ∧ x1 = (1610612736 + c * 1048576 + f) / 65536 % 256 ∧ x2 = (1610612736 + c * 1048576 + f) / 256 % 256 ∧ x3 = (1610612736 + c * 1048576 + f) % 256 ∧ (0 ≤ c ∧ c < 256) ∧ 0 ≤ f ∧ f < 1048576 := by
  rw [shr20] at hc
  rw [and20 (by omega), IntWalk.u32_in _ (by omega)] at hf
  rw [show ∀ z : Int, IntKind.u8.wrap z = z % 256 from fun z => by simp [IntKind.wrap, IntKind.signed, IntKind.bits]] at hc
  rw [shr28]
  omega
theorem pkF_nxt (b : List Int) : (pkF b).1.nxt = b.getD 6 default := by
  unfold pkF; split <;> rfl
theorem pkF_pay (b : List Int) : (pkF b).2 = if b.getD 6 default = 17 then b.drop 48 else b.drop 40 := by
  unfold pkF; split <;> rfl
theorem sizeP_pkF {b : List Int} (h : 40 ≤ b.length) (h2 : b.getD 6 default = 17 → 48 ≤ b.length) : sizeP (pkF b) = b.length := by
  unfold sizeP
  rw [pkF_nxt, pkF_pay]
  split
  · have := h2 (by assumption)
    rw [List.length_drop]; omega
  · rw [List.length_drop]; omega
theorem hd1_F {b : List Int} {sp dp : Int} (hb : BL b) (h : 40 ≤ b.length) :
    (0 ≤ (hd1 b sp dp).cls ∧ (hd1 b sp dp).cls < 256) ∧ (0 ≤ (hd1 b sp dp).flow ∧ (hd1 b sp dp).flow < 1048576) := by
  have := (first_iff (hb.get 0) (hb.get 1) (hb.get 2) (hb.get 3) rfl rfl).2.2.2.2
  rw [← uI_4 (by omega)] at this
  exact this
theorem u16_2 {x y : Int} (hx : 0 ≤ x ∧ x < 256) (hy : 0 ≤ y ∧ y < 256) : IntKind.u16.wrap (x * 256 + y) = x * 256 + y := IntWalk.u16_in _ (by omega)
/-- The numbers of a decoded packet are in their ranges. -/
theorem pkF_w {b : List Int} (hb : BL b) (h : 40 ≤ b.length) : PkW (pkF b) := by
  have hv : ∀ o i, 0 ≤ vget (fun q : Fin 16 => b.getD (o + q.1) default) i ∧ vget (fun q : Fin 16 => b.getD (o + q.1) default) i < 256 := fun o i => by
    unfold vget
    split
    · exact hb.get _
    · omega
  have hw : ∀ z, 0 ≤ IntKind.u16.wrap z ∧ IntKind.u16.wrap z < 65536 := fun z => by
    simp only [IntKind.wrap, IntKind.signed, IntKind.bits]
    exact ⟨Int.emod_nonneg _ (by decide), Int.emod_lt_of_pos _ (by decide)⟩
  unfold pkF
  split
  · obtain ⟨c1, c2⟩ := hd1_F (sp := IntKind.u16.wrap (uI b 40 2)) (dp := IntKind.u16.wrap (uI b 42 2)) hb h
    exact ⟨c1, ⟨c2.1, Int.lt_trans c2.2 (by decide)⟩, hb.get 6, hb.get 7, hv 8, hv 24, hw _, hw _, hb.drop 48⟩
  · obtain ⟨c1, c2⟩ := hd1_F (sp := 0) (dp := 0) hb h
    exact ⟨c1, ⟨c2.1, Int.lt_trans c2.2 (by decide)⟩, hb.get 6, hb.get 7, hv 8, hv 24, ⟨Int.le_refl _, (by show (0 : Int) < 65536; decide)⟩, ⟨Int.le_refl _, (by show (0 : Int) < 65536; decide)⟩, hb.drop 40⟩
theorem len_w {n : Nat} (h : 40 ≤ n ∧ n ≤ 1280) : IntKind.u64.wrap (IntKind.i64.wrap ((n : Int) - 40)) = n - 40 := by
  rw [IntWalk.i64_in _ (by omega)]
  exact IntWalk.u64_in _ (by omega)
/-- Where the header of a decoded packet is the bytes. -/
theorem hdL_pkF {b : List Int} (hb : BL b) (h : 40 ≤ b.length ∧ b.length ≤ 1280) (h2 : b.getD 6 default = 17 → 48 ≤ b.length) :
    hdL (pkF b) = b.take 40 ↔ shrI .u64 (uI b 0 4) 28 = 6 ∧ uI b 4 2 = IntKind.u64.wrap (IntKind.i64.wrap (b.length - 40)) := by
  have e40 : b.take 40 = [b.getD 0 default, b.getD 1 default, b.getD 2 default, b.getD 3 default, b.getD 4 default, b.getD 5 default, b.getD 6 default, b.getD 7 default, b.getD 8 default, b.getD 9 default, b.getD 10 default, b.getD 11 default, b.getD 12 default, b.getD 13 default, b.getD 14 default, b.getD 15 default, b.getD 16 default, b.getD 17 default, b.getD 18 default, b.getD 19 default, b.getD 20 default, b.getD 21 default, b.getD 22 default, b.getD 23 default, b.getD 24 default, b.getD 25 default, b.getD 26 default, b.getD 27 default, b.getD 28 default, b.getD 29 default, b.getD 30 default, b.getD 31 default, b.getD 32 default, b.getD 33 default, b.getD 34 default, b.getD 35 default, b.getD 36 default, b.getD 37 default, b.getD 38 default, b.getD 39 default] := by
    conv => lhs; rw [split40 h.1]
    rfl
  rw [len_w h, uI_4 (by omega), uI_2 (a := 4) (k := 4) rfl (by omega), e40]
  have hs := sizeP_pkF h.1 h2
  have g0 := hb.get 0; have g1 := hb.get 1; have g2 := hb.get 2; have g3 := hb.get 3; have g4 := hb.get 4; have g5 := hb.get 5
  have hc : (pkF b).1.cls = IntKind.u8.wrap (shrI .u64 (uI b 0 4) 20) := by unfold pkF; split <;> rfl
  have hf : (pkF b).1.flow = IntKind.u32.wrap (bits .and .u64 (uI b 0 4) 1048575) := by unfold pkF; split <;> rfl
  rw [uI_4 (by omega)] at hc hf
  obtain ⟨f0, f1, f2, f3, fc, ff⟩ := first_iff g0 g1 g2 g3 hc hf
  have hsrc : (pkF b).1.src = fun q => b.getD (8 + q.1) default := by unfold pkF; split <;> rfl
  have hdst : (pkF b).1.dst = fun q => b.getD (24 + q.1) default := by unfold pkF; split <;> rfl
  have hhop := pkF_hops b
  have hnx := pkF_nxt b
  constructor
  · intro e
    unfold hdL at e
    rw [hs] at e
    simp only [List.cons.injEq] at e
    obtain ⟨k0, _, _, _, k4, k5, _⟩ := e
    refine ⟨f0.2 k0.symm, ?_⟩
    show b.getD 4 default * 256 + b.getD 5 default = _
    omega
  · rintro ⟨k0, k1⟩
    have k1' : b.getD 4 default * 256 + b.getD 5 default = (b.length : Int) - 40 := k1
    unfold hdL
    rw [hsrc, hdst, hhop, hnx, hs, ← f0.1 k0, ← f1, ← f2, ← f3]
    rw [show ((b.length : Int) - 40) / 256 % 256 = b.getD 4 default by omega, show ((b.length : Int) - 40) % 256 = b.getD 5 default by omega]
    rfl
theorem app_iff {a b c d : List Int} (h : a.length = b.length) : a ++ c = b ++ d ↔ a = b ∧ c = d :=
  ⟨fun e => List.append_inj e h, fun ⟨e1, e2⟩ => by rw [e1, e2]⟩
/-- A decoded packet is encoded to the same bytes where the version and the lengths are right. -/
theorem encB_pkF {b : List Int} (hb : BL b) (h : 40 ≤ b.length ∧ b.length ≤ 1280) (h2 : b.getD 6 default = 17 → 48 ≤ b.length) {s : Int} (hs : 0 ≤ s ∧ s < 65536) :
    encB (pkF b) s = b ↔ (shrI .u64 (uI b 0 4) 28 = 6 ∧ uI b 4 2 = IntKind.u64.wrap (IntKind.i64.wrap (b.length - 40))) ∧ (b.getD 6 default = 17 → uI b 44 2 = IntKind.u64.wrap (IntKind.i64.wrap (b.length - 40)) ∧ s = uI b 46 2) := by
  have hz := sizeP_pkF h.1 h2
  rw [← hdL_pkF hb h h2, encB_hd, pkF_nxt, pkF_pay]
  have hl : (hdL (pkF b)).length = (b.take 40).length := by rw [List.length_take]; show 40 = _; omega
  conv => lhs; rhs; rw [← List.take_append_drop 40 b]
  rw [app_iff hl]
  by_cases hu : b.getD 6 default = 17
  · rw [if_pos hu, if_pos hu]
    refine and_congr_right fun _ => ?_
    have h48 := h2 hu
    have g := fun i => hb.get i
    have a0 := hb.get 40; have a1 := hb.get 41; have a2 := hb.get 42; have a3 := hb.get 43; have a4 := hb.get 44; have a5 := hb.get 45; have a6 := hb.get 46; have a7 := hb.get 47
    have hsp : (pkF b).1.sp = b.getD 40 default * 256 + b.getD 41 default := by
      unfold pkF; rw [if_pos hu]
      show IntKind.u16.wrap (uI b 40 2) = _
      rw [uI_2 (a := 40) (k := 40) rfl (by omega)]; exact u16_2 a0 a1
    have hdp : (pkF b).1.dp = b.getD 42 default * 256 + b.getD 43 default := by
      unfold pkF; rw [if_pos hu]
      show IntKind.u16.wrap (uI b 42 2) = _
      rw [uI_2 (a := 42) (k := 42) rfl (by omega)]; exact u16_2 a2 a3
    rw [len_w h, uI_2 (a := 44) (k := 44) rfl (by omega), uI_2 (a := 46) (k := 46) rfl (by omega), split48 h48]
    unfold ulL
    rw [hsp, hdp, hz, List.append_cancel_right_eq]
    simp only [List.cons.injEq, and_true]
    constructor
    · rintro ⟨_, _, _, _, k4, k5, k6, k7⟩ _
      show b.getD 44 default * 256 + b.getD 45 default = _ ∧ _ = b.getD 46 default * 256 + b.getD 47 default
      omega
    · intro k
      obtain ⟨k1, k2⟩ := k hu
      have k1' : b.getD 44 default * 256 + b.getD 45 default = (b.length : Int) - 40 := k1
      have k2' : s = b.getD 46 default * 256 + b.getD 47 default := k2
      omega
  · rw [if_neg hu, if_neg hu, List.nil_append]
    exact ⟨fun h => ⟨h.1, fun k => absurd k hu⟩, fun h => ⟨h.1, rfl⟩⟩
/-- What a checksum covers: no checksum, and nothing of the first eight bytes. -/
def covL (p : Pkt) : List Int := [vget p.1.src 0, vget p.1.src 1, vget p.1.src 2, vget p.1.src 3, vget p.1.src 4, vget p.1.src 5, vget p.1.src 6, vget p.1.src 7, vget p.1.src 8, vget p.1.src 9, vget p.1.src 10, vget p.1.src 11, vget p.1.src 12, vget p.1.src 13, vget p.1.src 14, vget p.1.src 15, vget p.1.dst 0, vget p.1.dst 1, vget p.1.dst 2, vget p.1.dst 3, vget p.1.dst 4, vget p.1.dst 5, vget p.1.dst 6, vget p.1.dst 7, vget p.1.dst 8, vget p.1.dst 9, vget p.1.dst 10, vget p.1.dst 11, vget p.1.dst 12, vget p.1.dst 13, vget p.1.dst 14, vget p.1.dst 15] ++ (beB (sizeP p - 40) 4 ++ ([0, 0, 0, 17] ++ ([p.1.sp / 256 % 256, p.1.sp % 256, p.1.dp / 256 % 256, p.1.dp % 256, (sizeP p - 40) / 256 % 256, (sizeP p - 40) % 256] ++ ([0, 0] ++ p.2))))
theorem cover_enc {p : Pkt} (h : p.1.nxt = 17) (s : Int) : coverB (encB p s) = covL p := by
  unfold coverB
  rw [encB_len, encB_hd, if_pos h]
  rfl
theorem cover_b {b : List Int} (h : 48 ≤ b.length) {c : List Int} (hc : b.drop 8 = c.drop 8) (hl : b.length = c.length) : coverB b = coverB c := by
  unfold coverB
  rw [show b.drop 40 = (b.drop 8).drop 32 by rw [List.drop_drop], show b.drop 48 = (b.drop 8).drop 40 by rw [List.drop_drop], hc, hl, List.drop_drop, List.drop_drop]
theorem sumP_covL {p : Pkt} (hv : validP p = true) (h : p.1.nxt = 17) : sumP p = sum0 (covL p) := by
  unfold sumP
  rw [if_pos ⟨hv, h⟩, cover_enc h]
theorem sum0_pos (l : List Int) : sum0 l ≠ 0 := by
  unfold sum0
  split
  · decide
  · assumption
/-- The fields of an encoding. -/
theorem pkF_enc {p : Pkt} (hw : PkW p) (hv : validP p = true) {s : Int} (hs : 0 ≤ s ∧ s < 65536) : pkF (encB p s) = p := by
  have h1 := hw.cls; have h2 := hw.flow
  have hfl : p.1.flow < 1048576 := by
    unfold validP at hv
    simp only [Bool.and_eq_true, decide_eq_true_eq] at hv
    have := hv.1.1.1
    omega
  have hz := valid_size hv
  have hl := encB_len p s
  have hz0 : 40 ≤ sizeP p := by unfold sizeP; split <;> omega
  have hF : uI (encB p s) 0 4 = 1610612736 + p.1.cls * 1048576 + p.1.flow := by
    rw [uI_4 (by omega), encB_hd]
    show (1610612736 + p.1.cls * 1048576 + p.1.flow) / 16777216 % 256 * 16777216 + (1610612736 + p.1.cls * 1048576 + p.1.flow) / 65536 % 256 * 65536 + (1610612736 + p.1.cls * 1048576 + p.1.flow) / 256 % 256 * 256 + (1610612736 + p.1.cls * 1048576 + p.1.flow) % 256 = _
    omega
  have hcls : IntKind.u8.wrap (shrI .u64 (uI (encB p s) 0 4) 20) = p.1.cls := by
    rw [hF, shr20, show ∀ z : Int, IntKind.u8.wrap z = z % 256 from fun z => by simp [IntKind.wrap, IntKind.signed, IntKind.bits]]
    omega
  have hflow : IntKind.u32.wrap (bits .and .u64 (uI (encB p s) 0 4) 1048575) = p.1.flow := by
    rw [hF, and20 (by omega), IntWalk.u32_in _ (by omega)]
    omega
  have hn : (encB p s).getD 6 default = p.1.nxt := by rw [encB_hd]; rfl
  have hh : (encB p s).getD 7 default = p.1.hops := by rw [encB_hd]; rfl
  have hsrc : (fun q : Fin 16 => (encB p s).getD (8 + q.1) default) = p.1.src := by
    rw [encB_hd]
    funext q
    have hq := q.2
    obtain ⟨q, _⟩ := q
    iterate 16 (rcases q with _ | q; rfl)
    exact absurd hq (by omega)
  have hdst : (fun q : Fin 16 => (encB p s).getD (24 + q.1) default) = p.1.dst := by
    rw [encB_hd]
    funext q
    have hq := q.2
    obtain ⟨q, _⟩ := q
    iterate 16 (rcases q with _ | q; rfl)
    exact absurd hq (by omega)
  unfold pkF
  rw [hn]
  split
  · rename_i hu
    have h48 : sizeP p = 48 + p.2.length := by unfold sizeP; rw [if_pos hu]
    have hsp := hw.sp; have hdp := hw.dp
    have e1 : IntKind.u16.wrap (uI (encB p s) 40 2) = p.1.sp := by
      rw [uI_2 (a := 40) (k := 40) rfl (by omega), encB_hd, if_pos hu]
      show IntKind.u16.wrap (p.1.sp / 256 % 256 * 256 + p.1.sp % 256) = _
      rw [IntWalk.u16_in _ (by omega)]
      omega
    have e2 : IntKind.u16.wrap (uI (encB p s) 42 2) = p.1.dp := by
      rw [uI_2 (a := 42) (k := 42) rfl (by omega), encB_hd, if_pos hu]
      show IntKind.u16.wrap (p.1.dp / 256 % 256 * 256 + p.1.dp % 256) = _
      rw [IntWalk.u16_in _ (by omega)]
      omega
    have e3 : (encB p s).drop 48 = p.2 := by rw [encB_hd, if_pos hu]; rfl
    unfold pkU hd1
    rw [hcls, hflow, hn, hh, hsrc, hdst, e1, e2, e3]
  · rename_i hu
    have e3 : (encB p s).drop 40 = p.2 := by rw [encB_hd, if_neg hu]; rfl
    have hp : p.1.sp = 0 ∧ p.1.dp = 0 := by
      unfold validP at hv
      simp only [Bool.and_eq_true, Bool.or_eq_true, decide_eq_true_eq] at hv
      rcases hv.2 with h | h
      · exact absurd h hu
      · exact h
    unfold pkN hd1
    rw [hcls, hflow, hn, hh, hsrc, hdst, e3]
    calc _ = ((⟨p.1.cls, p.1.flow, p.1.nxt, p.1.hops, p.1.src, p.1.dst, p.1.sp, p.1.dp⟩, p.2) : Pkt) := by rw [hp.1, hp.2]
      _ = p := rfl
end Go.Proofs.Ytjknkfjhcapocaa.AX
/- Plain laws of contexts and of halves of addresses. -/
namespace Go.Proofs.Ytjknkfjhcapocaa.AX
open Go.RowKit
set_option linter.unusedVariables false
set_option linter.unusedSimpArgs false
theorem forCom_in {l : List Ctx} {a : Fin 16 → Int} {now : Int} (h : (forCom l a now).2 = true) : validT l = true ∧ vt now = true ∧ (forCom l a now).1 ∈ l ∧ mt a now (forCom l a now).1 = true := by
  unfold forCom at h ⊢
  split at h
  · rename_i hv
    rw [if_pos hv]
    refine ⟨hv.1, hv.2, ?_⟩
    rcases (fold_spec a now l (default, false) (-1) hv.1 (fun h => by cases h)).2.2 with g | g
    · rw [g] at h; cases h
    · exact g.2
  · cases h
/-! ### Halves of addresses -/
theorem beN_snoc (x c : Int) (hc : 0 ≤ c ∧ c < 256) : ∀ n, beN (x * 256 + c) (n + 1) = beN x n ++ [c] := by
  intro n
  induction n with
  | zero =>
    show [(x * 256 + c) / 256 ^ 0 % 256] = [c]
    rw [Int.pow_zero, Int.ediv_one]
    congr 1
    omega
  | succ n ih =>
    show (x * 256 + c) / 256 ^ (n + 1) % 256 :: beN (x * 256 + c) (n + 1) = (x / 256 ^ n % 256 :: beN x n) ++ [c]
    rw [ih, List.cons_append]
    congr 1
    rw [Int.pow_succ, Int.mul_comm (256 ^ n) 256, ← Int.ediv_ediv_of_nonneg (show (0 : Int) ≤ 256 by decide), show (x * 256 + c) / 256 = x by omega]
theorem beN_beVal : ∀ (n : Nat) (l : List Int), BL l → l.length = n → beN (beVal l) n = l := by
  intro n
  induction n with
  | zero => intro l _ h; rw [List.length_eq_zero_iff.1 h]; rfl
  | succ n ih =>
    intro l hl h
    have hne : l ≠ [] := fun e => by rw [e] at h; cases h
    have e := List.dropLast_concat_getLast hne
    have hb : BL l.dropLast := ⟨fun x hx => hl.m x ((List.dropLast_sublist l).subset hx)⟩
    have hc := hl.m _ (List.getLast_mem hne)
    rw [← e, beVal_snoc, beN_snoc _ _ hc, ih _ hb (by rw [List.length_dropLast]; omega)]
theorem beVal_beN : ∀ (n : Nat) (v : Int), 0 ≤ v → v < 256 ^ n → beVal (beN v n) = v := by
  intro n
  induction n with
  | zero => intro v h1 h2; simp at h2; show (0 : Int) = v; omega
  | succ n ih =>
    intro v h1 h2
    have e : v = (v / 256) * 256 + v % 256 := by omega
    have h3 : v / 256 < 256 ^ n := by
      rw [Int.pow_succ] at h2
      exact Int.ediv_lt_of_lt_mul (by decide) h2
    conv => lhs; rw [e]
    rw [beN_snoc _ _ (by omega), beVal_snoc, ih _ (by omega) h3]
    omega
def hiF (a : Fin 16 → Int) : Int := beVal ((ipL a).take 8)
def loF (a : Fin 16 → Int) : Int := beVal ((ipL a).drop 8)
def splF (a : Fin 16 → Int) : Int × Int := (hiF a, loF a)
def jn (a : Fin 16 → Int) (y : Int) : Fin 16 → Int := fun q => if q.1 < 8 then a q else byteM y 8 (q.1 - 8)
theorem ipBL {a : Fin 16 → Int} (h : byteOk a) : BL (ipL a) := ipL_BL fun i => h.v i
theorem hi_lt {a : Fin 16 → Int} (h : byteOk a) : 0 ≤ hiF a ∧ hiF a < 18446744073709551616 := by
  have := beVal_lt _ ((ipBL h).take 8)
  rw [List.length_take, ipL_len] at this
  exact this
theorem lo_lt {a : Fin 16 → Int} (h : byteOk a) : 0 ≤ loF a ∧ loF a < 18446744073709551616 := by
  have := beVal_lt _ ((ipBL h).drop 8)
  rw [List.length_drop, ipL_len] at this
  exact this
theorem be_hi {a : Fin 16 → Int} (h : byteOk a) : beN (hiF a) 8 = (ipL a).take 8 := beN_beVal 8 _ ((ipBL h).take 8) (by rw [List.length_take, ipL_len]; rfl)
theorem be_lo {a : Fin 16 → Int} (h : byteOk a) : beN (loF a) 8 = (ipL a).drop 8 := beN_beVal 8 _ ((ipBL h).drop 8) (by rw [List.length_drop, ipL_len])
theorem beB8 (v : Int) : beB v 8 = beN v 8 := by unfold beB; rw [if_pos (by decide)]; rfl
theorem beB_hi {a : Fin 16 → Int} (h : byteOk a) : beB (hiF a) 8 ++ beB (loF a) 8 = ipL a := by
  rw [beB8, beB8, be_hi h, be_lo h, List.take_append_drop]
theorem ipL_get (a : Fin 16 → Int) {k : Nat} (hk : k < 16) : (ipL a).getD k default = vget a k := by
  unfold ipL
  rw [List.getD_eq_getElem?_getD, List.getElem?_map, List.getElem?_range hk]; rfl
theorem ip_fun {a b : Fin 16 → Int} (h : ∀ k, k < 16 → vget a k = vget b k) : a = b := by
  funext q
  have := h q.1 q.2
  rw [vget_lt _ q.2, vget_lt _ q.2] at this
  exact this
theorem ipL_inj {a b : Fin 16 → Int} (h : ipL a = ipL b) : a = b := ip_fun fun k hk => by rw [← ipL_get a hk, ← ipL_get b hk, h]
theorem jn_at (a : Fin 16 → Int) (y : Int) {k : Nat} (hk : k < 16) : vget (jn a y) k = if k < 8 then vget a k else byteM y 8 (k - 8) := by
  rw [vget_lt _ hk]
  unfold jn
  split
  · rw [vget_lt _ hk]
  · rfl
theorem byteM_r (v : Int) (m j : Nat) : 0 ≤ byteM v m j ∧ byteM v m j < 256 := by
  unfold byteM
  simp only [IntKind.wrap, IntKind.signed, IntKind.bits]
  constructor
  · exact Int.emod_nonneg _ (by decide)
  · exact Int.emod_lt_of_pos _ (by decide)
theorem jn_ok {a : Fin 16 → Int} (h : byteOk a) (y : Int) : byteOk (jn a y) := ⟨fun q => by
  unfold jn
  split
  · exact h.q q
  · exact byteM_r _ _ _⟩
theorem jn_L (a : Fin 16 → Int) (y : Int) : ipL (jn a y) = (ipL a).take 8 ++ beN y 8 := by
  rw [← beM_eq y 8 (by decide)]
  apply List.ext_getElem
  · rw [ipL_len, List.length_append, List.length_take, ipL_len]; simp [beM]
  · intro k h1 h2
    rw [ipL_len] at h1
    rw [List.getElem_append]
    split
    · rename_i h
      rw [List.length_take, ipL_len] at h
      simp only [ipL, List.getElem_map, List.getElem_range, List.getElem_take]
      rw [jn_at a y h1, if_pos (by omega)]
    · rename_i h
      rw [List.length_take, ipL_len] at h
      simp only [ipL, beM, List.getElem_map, List.getElem_range, List.length_take, List.length_map, List.length_range]
      rw [jn_at a y h1, if_neg (by omega)]; rfl
theorem jn_hi {a : Fin 16 → Int} (y : Int) : hiF (jn a y) = hiF a := by
  unfold hiF
  rw [jn_L, List.take_left' (by rw [List.length_take, ipL_len]; rfl)]
theorem jn_lo {a : Fin 16 → Int} {y : Int} (h : 0 ≤ y ∧ y < 18446744073709551616) : loF (jn a y) = y := by
  unfold loF
  rw [jn_L, List.drop_left' (by rw [List.length_take, ipL_len]; rfl)]
  exact beVal_beN 8 y h.1 h.2
theorem jn_iff {p a : Fin 16 → Int} (hp : byteOk p) (ha : byteOk a) : jn p (loF a) = a ↔ hiF p = hiF a := by
  constructor
  · intro h
    have := congrArg hiF h
    rw [jn_hi] at this
    exact this
  · intro h
    apply ipL_inj
    rw [jn_L, be_lo ha, ← be_hi hp, h, be_hi ha, List.take_append_drop]
theorem ofF_eq (x y : Int) : ofF x y = fun q => if q.1 < 8 then byteM x 8 q.1 else byteM y 8 (q.1 - 8) := by
  funext q
  unfold ofF ofB
  split
  · rename_i h
    rw [show Nat.blt q.1 8 = true from Nat.ble_eq_true_of_le h, cond_true]
    unfold byteM
    rw [show (56 : Int) - 8 * ((q.1 % 8 : Nat) : Int) = 8 * (((8 : Nat) : Int) - 1 - (q.1 : Int)) by omega]
  · rename_i h
    rw [show Nat.blt q.1 8 = false from by cases hb : Nat.blt q.1 8 with
      | false => rfl
      | true => have := Nat.le_of_ble_eq_true hb; omega, cond_false]
    unfold byteM
    have := q.2
    rw [show (56 : Int) - 8 * ((q.1 % 8 : Nat) : Int) = 8 * (((8 : Nat) : Int) - 1 - ((q.1 - 8 : Nat) : Int)) by omega]
theorem of_hi {a : Fin 16 → Int} (h : byteOk a) (y : Int) : ofF (hiF a) y = jn a y := by
  rw [ofF_eq]
  funext q
  unfold jn
  split
  · rename_i hq
    have e := be_hi h
    rw [← beM_eq _ 8 (by decide)] at e
    have e2 := congrArg (fun l => l.getD q.1 default) e
    have e3 : ((ipL a).take 8).getD q.1 default = vget a q.1 := by rw [← ipL_get a q.2, List.getD_eq_getElem?_getD, List.getD_eq_getElem?_getD, List.getElem?_take, if_pos hq]
    have e4 : (beM (hiF a) 8).getD q.1 default = vget a q.1 := e2.trans e3
    rw [vget_lt _ q.2] at e4
    rw [← e4]
    simp [beM, hq]
  · rfl
/-- The prefix of the link-local addresses. -/
def llP : Pfx := ⟨fun q => if q.1 = 0 then 254 else if q.1 = 1 then 128 else 0, 64⟩
theorem llP_b : byteOk llP.ip := ⟨fun q => by show 0 ≤ (if q.1 = 0 then (254 : Int) else if q.1 = 1 then 128 else 0) ∧ (if q.1 = 0 then (254 : Int) else if q.1 = 1 then 128 else 0) < 256; split <;> (try split) <;> omega⟩
theorem llP_v : vpf llP = true := by decide +kernel
theorem llP_hi : hiF llP.ip = 18338657682652659712 := by decide +kernel
theorem llP_of (y : Int) : ofF 18338657682652659712 y = jn llP.ip y := by rw [← llP_hi]; exact of_hi llP_b y
end Go.Proofs.Ytjknkfjhcapocaa.AX
/- What the makers draw from a tape: prefixes, contexts, devices, addresses. -/
namespace Go.Proofs.Ytjknkfjhcapocaa.AX
open Go.RowKit
set_option linter.unusedVariables false
set_option linter.unusedSimpArgs false
structure Adr where
  mode : Int
  short : Int
  eui : Int
def eAdrC (x : Adr) (j : Nat) : CV := bif Nat.beq j 0 then .int .i64 x.mode else bif Nat.beq j 1 then .int .u16 x.short else (.int .u64 x.eui)
def eAdr : Elem Adr where
  sz := 3
  cell := eAdrC
  rd g := ⟨valI (g 0), valI (g 1), valI (g 2)⟩
  ok g := isK .i64 (g 0) && isK .u16 (g 1) && isK .u64 (g 2)
  ok_eq g h j hj := by
    simp only [Bool.and_eq_true] at h
    unfold eAdrC
    by_cases c0 : j < 1
    · have e : j = 0 := by omega
      subst e
      exact isK_eq h.1.1
    by_cases c1 : j < 2
    · have e : j = 1 := by omega
      subst e
      exact isK_eq h.1.2
    by_cases c2 : j < 3
    · have e : j = 2 := by omega
      subst e
      exact isK_eq h.2
    omega
  flat a j := by
    unfold eAdrC
    cases Nat.beq j 0 with
    | true => exact flat_int
    | false =>
    cases Nat.beq j 1 with
    | true => exact flat_int
    | false =>
    exact flat_int
theorem eAdr_sz : 0 < eAdr.sz := by decide
theorem eAdr_rd (x : Adr) : eAdr.rd (eAdr.cell x) = x := by
  show (⟨x.mode, x.short, x.eui⟩ : Adr) = x
  rfl
theorem eAdr_ok (x : Adr) : eAdr.ok (eAdr.cell x) = true := rfl
theorem rd_adr (x : Adr) : eAdr.rd (fun q => eAdr.cell x (0 + q)) = x := by
  simp only [Nat.zero_add]; exact eAdr_rd x
theorem word_ok (n : Nat) (l : List Int) (q : Int) (ht : TapeOk n (rI l) q) :
    ∃ (r q' : Int), True ∧ TapeOk n (rI l) q' ∧ MethOk Try.prog 52 [] (tapeN n (rI l) q) ((cI .u64).enc r) (tapeN n (rI l) q') := by
  refine tape_intro (wd := 1) (Q := mkQ LT0) (by decide) tysOk (q_of LT0_ok) mixed Try.func52 rfl _ (by show 0 + 1 ≤ _; decide) (fun _ => nff_int) ?_
  repeat' (first | (apply And.intro <;> intro hc <;> (first | exact Bool.noConfusion hc | (simp only [decide_eq_true_eq, decide_eq_false_iff_not, Bool.not_eq_true', Bool.not_eq_false', beq_iff_eq, beq_eq_false_iff_ne, bne_iff_ne, bne_eq_false_iff_eq, Bool.true_eq_false, Bool.false_eq_true] at hc) | skip)) | (refine And.intro (by first | exact trivial | decide | omega | (dsimp only; omega) | exact fun _ _ => rfl | exact ⟨by assumption, by first | exact trivial | decide | omega | (dsimp only; omega)⟩) ?_) | (apply And.intro) | (intro s hs))
  all_goals exact ⟨(_, _), ⟨trivial, by assumption⟩, ⟨leF_int rfl, tapeN_le⟩⟩
abbrev wordE : Entry := tapeE AC.nil (fun _ => True) (fun a (r : Int) => True) (cI .u64).enc
def LT1 : CsL := (75, some boolE) :: (52, some wordE) :: LT0 ++ LR2
theorem LT1_ok : AllOk Try.prog LT1 := append_ok (a := (75, some boolE) :: (52, some wordE) :: LT0) ⟨tapeE_ok ⟨_, Try.func75, rfl, by kernel_rfl⟩ fun n l q a ht hp => bool_ok n l q a.1 ht hp.1 hp.2, tapeE_ok ⟨_, Try.func52, rfl, by kernel_rfl⟩ fun n l q a ht _ => word_ok n l q ht, LT0_ok⟩ LR2_ok
set_option maxRecDepth 10000 in
theorem prefix_ok (n : Nat) (l : List Int) (q : Int) (ht : TapeOk n (rI l) q) :
    ∃ (r : Pfx) (q' : Int), (vpf r = true ∧ byteOk r.ip) ∧ TapeOk n (rI l) q' ∧ MethOk Try.prog 43 [] (tapeN n (rI l) q) ((cE ePfx).enc r) (tapeN n (rI l) q') := by
  refine tape_intro (wd := 1) (Q := mkQ LT1) (by decide) tysOk (q_of LT1_ok) mixed Try.func43 rfl _ (by show 0 + 1 ≤ _; decide) (nff_elem ePfx) ?_
  repeat' (first | (apply And.intro <;> intro hc <;> (first | exact Bool.noConfusion hc | (simp only [decide_eq_true_eq, decide_eq_false_iff_not, Bool.not_eq_true', Bool.not_eq_false', beq_iff_eq, beq_eq_false_iff_ne, bne_iff_ne, bne_eq_false_iff_eq, Bool.true_eq_false, Bool.false_eq_true] at hc) | skip)) | (refine And.intro (by first | exact trivial | decide | omega | (dsimp only; omega) | exact fun _ _ => rfl | exact ⟨by assumption, by first | exact trivial | decide | omega | (dsimp only; omega)⟩) ?_) | (apply And.intro) | (intro s hs))
  · rename_i so hso sn hsn
    show byteOk ((eA .u8 16).rd ((eA .u8 16).cell so))
    rw [eA_rd, hso]; exact of_byteOk _ _
  · rename_i so hso sn hsn sq hsq
    have hb : byteOk so := by rw [hso]; exact of_byteOk _ _
    obtain ⟨b, e⟩ : ∃ b, s = maskP so b := ⟨_, hs.trans (congrArg (maskP · _) (eA_rd (k := .u8) so))⟩
    exact ⟨(s, _), ⟨⟨by rw [e]; exact mask_vpf hb b, by rw [e]; exact mask_byteOk hb b⟩, by assumption⟩, ⟨leF_e (leE_all (by repeat' (first | exact trivial | exact rfl | exact leC_int rfl | exact leC_bool rfl | refine leE_all ?_ | exact leC_bool (by assumption) | apply And.intro))), tapeN_le⟩⟩
set_option maxRecDepth 10000 in
theorem device_ok (n : Nat) (l : List Int) (q : Int) (ht : TapeOk n (rI l) q) :
    ∃ (r : Adr) (q' : Int), True ∧ TapeOk n (rI l) q' ∧ MethOk Try.prog 42 [] (tapeN n (rI l) q) ((cE eAdr).enc r) (tapeN n (rI l) q') := by
  refine tape_intro (wd := 1) (Q := mkQ LT1) (by decide) tysOk (q_of LT1_ok) mixed Try.func42 rfl _ (by show 0 + 1 ≤ _; decide) (nff_elem eAdr) ?_
  repeat' (first | (apply And.intro <;> intro hc <;> (first | exact Bool.noConfusion hc | (simp only [decide_eq_true_eq, decide_eq_false_iff_not, Bool.not_eq_true', Bool.not_eq_false', beq_iff_eq, beq_eq_false_iff_ne, bne_iff_ne, bne_eq_false_iff_eq, Bool.true_eq_false, Bool.false_eq_true] at hc) | skip)) | (refine And.intro (by first | exact trivial | decide | omega | (dsimp only; omega) | exact fun _ _ => rfl | exact ⟨by assumption, by first | exact trivial | decide | omega | (dsimp only; omega)⟩) ?_) | (apply And.intro) | (intro s hs))
  · exact ⟨(⟨3, 0, _⟩, _), ⟨trivial, by assumption⟩, ⟨leF_e (leE_all ⟨⟨⟨trivial, leC_int rfl⟩, leC_int rfl⟩, leC_int rfl⟩), tapeN_le⟩⟩
  · exact ⟨(⟨2, _, 0⟩, _), ⟨trivial, by assumption⟩, ⟨leF_e (leE_all ⟨⟨⟨trivial, leC_int rfl⟩, leC_int rfl⟩, leC_int rfl⟩), tapeN_le⟩⟩
def adrValid (a : Adr) : Bool := if a.mode = 0 then (a.short == 0) && (a.eui == 0) else if a.mode = 2 then (a.eui == 0) else if a.mode = 3 then (a.short == 0) else false
theorem adrValid_ok (a : Adr) : PureOk Try.prog 124 [(cE eAdr).enc a] (cB.enc (adrValid a)) := by
  refine pure_intro (wd := 1) (Q := mkQ LE0) (by decide) tysOk (q_of LE0_ok) mixed Try.func124 rfl _ (by show 1 ≤ _; decide) _ ?_
  repeat' (first | (apply And.intro <;> intro hc <;> (first | exact Bool.noConfusion hc | (simp only [decide_eq_true_eq, decide_eq_false_iff_not, Bool.not_eq_true', Bool.not_eq_false', beq_iff_eq, beq_eq_false_iff_ne, bne_iff_ne, bne_eq_false_iff_eq, Bool.true_eq_false, Bool.false_eq_true] at hc) | skip)) | (refine And.intro (by first | exact trivial | decide | omega | (dsimp only; omega) | exact fun _ _ => rfl) ?_) | (apply And.intro) | (intro s hs))
  all_goals (refine Done.mk (leF_bool ?_); simp [adrValid, *])
def adrSome (a : Adr) : Bool := adrValid a && (a.mode != 0)
def LA0 : CsL := (124, some (pureE (AC.cons (cE eAdr) AC.nil) (fun _ => True) (fun a => adrValid a.1) cB.enc)) :: []
theorem LA0_ok : AllOk Try.prog LA0 := ⟨pureE_ok ⟨_, Try.func124, rfl, by kernel_rfl⟩ fun a _ => adrValid_ok a.1, trivial⟩
theorem adrSome_ok (a : Adr) : PureOk Try.prog 85 [(cE eAdr).enc a] (cB.enc (adrSome a)) := by
  refine pure_intro (wd := 1) (Q := mkQ LA0) (by decide) tysOk (q_of LA0_ok) mixed Try.func85 rfl _ (by show 1 ≤ _; decide) _ ?_
  repeat' (first | (apply And.intro <;> intro hc <;> (first | exact Bool.noConfusion hc | (simp only [decide_eq_true_eq, decide_eq_false_iff_not, Bool.not_eq_true', Bool.not_eq_false', beq_iff_eq, beq_eq_false_iff_ne, bne_iff_ne, bne_eq_false_iff_eq, Bool.true_eq_false, Bool.false_eq_true] at hc) | skip)) | (refine And.intro (by first | exact trivial | decide | omega | (dsimp only; omega) | exact fun _ _ => rfl) ?_) | (apply And.intro) | (intro s hs))
  all_goals (
    have e1 : s = adrValid a := hs.trans (congrArg adrValid (rd_adr a))
    refine Done.mk (leF_bool ?_)
    simp [adrSome, ← e1, hc])
def iidF (a : Adr) : Int × Bool := if adrSome a = true then (if a.mode = 3 then (bits .xor .u64 a.eui 144115188075855872, true) else (IntKind.u64.wrap (1099478073344 + IntKind.u64.wrap a.short), true)) else (0, false)
def encIB (r : Int × Bool) : FV := .tup [.c (.int .u64 r.1), .c (.bool r.2)]
def LA1 : CsL := (85, some (pureE (AC.cons (cE eAdr) AC.nil) (fun _ => True) (fun a => adrSome a.1) cB.enc)) :: LA0
theorem LA1_ok : AllOk Try.prog LA1 := ⟨pureE_ok ⟨_, Try.func85, rfl, by kernel_rfl⟩ fun a _ => adrSome_ok a.1, LA0_ok⟩
theorem iid_ok (a : Adr) : PureOk Try.prog 46 [(cE eAdr).enc a] (encIB (iidF a)) := by
  refine pure_intro (wd := 1) (Q := mkQ LA1) (by decide) tysOk (q_of LA1_ok) mixed Try.func46 rfl _ (by show 1 ≤ _; decide) _ ?_
  repeat' (first | (apply And.intro <;> intro hc <;> (first | exact Bool.noConfusion hc | (simp only [decide_eq_true_eq, decide_eq_false_iff_not, Bool.not_eq_true', Bool.not_eq_false', beq_iff_eq, beq_eq_false_iff_ne, bne_iff_ne, bne_eq_false_iff_eq, Bool.true_eq_false, Bool.false_eq_true] at hc) | skip)) | (refine And.intro (by first | exact trivial | decide | omega | (dsimp only; omega) | exact fun _ _ => rfl) ?_) | (apply And.intro) | (intro s hs))
  all_goals (
    have e1 : s = adrSome a := hs.trans (congrArg adrSome (rd_adr a))
    clear hs
    subst e1
    refine Done.mk (leF_tup ⟨leC_int ?_, leC_bool ?_, trivial⟩) <;> simp [iidF, *])
def setV (a : Fin 16 → Int) (i : Nat) (v : Int) : Fin 16 → Int := fun q => if q.1 = i then v else a q
theorem setV_ok {a : Fin 16 → Int} {i : Nat} {v : Int} (ha : byteOk a) (hv : 0 ≤ v ∧ v < 256) : byteOk (setV a i v) := ⟨fun q => by
  unfold setV
  split
  · exact hv
  · exact ha.q q⟩
theorem setV_at {a : Fin 16 → Int} {i off j : Nat} {v : Int} (h : off = i) (hj : j < 16) : (bif Nat.ble off j && Nat.blt j (off + 1) then v else vget a j) = vget (setV a i v) j := by
  rw [vget_lt _ hj, vget_lt _ hj]
  unfold setV
  by_cases e : j = i
  · rw [rng_in (by omega), cond_true, if_pos e]
  · rw [rng_out (by omega), cond_false, if_neg e]
theorem u8r (z : Int) : 0 ≤ IntKind.u8.wrap z ∧ IntKind.u8.wrap z < 256 := by
  simp only [IntKind.wrap, IntKind.signed, IntKind.bits]
  constructor
  · exact Int.emod_nonneg _ (by decide)
  · exact Int.emod_lt_of_pos _ (by decide)
structure GrpS (n : Nat) (l : List Int) where
  i : Nat
  a : Fin 16 → Int
  q : Int
  hi : i ≤ 15
  ha : byteOk a
  ht : TapeOk n (rI l) q
set_option maxRecDepth 10000 in
theorem group_ok (n : Nat) (l : List Int) (q : Int) (ht : TapeOk n (rI l) q) :
    ∃ (r : Fin 16 → Int) (q' : Int), byteOk r ∧ TapeOk n (rI l) q' ∧ MethOk Try.prog 62 [] (tapeN n (rI l) q) ((cE (eA .u8 16)).enc r) (tapeN n (rI l) q') := by
  refine tape_intro (wd := 1) (Q := mkQ LT1) (by decide) tysOk (q_of LT1_ok) mixed Try.func62 rfl _ (by show 0 + 1 ≤ _; decide) (nff_elem (eA .u8 16)) ?_
  repeat' (first | (apply And.intro <;> intro hc <;> (first | exact Bool.noConfusion hc | (simp only [decide_eq_true_eq, decide_eq_false_iff_not, Bool.not_eq_true', Bool.not_eq_false', beq_iff_eq, beq_eq_false_iff_ne, bne_iff_ne, bne_eq_false_iff_eq, Bool.true_eq_false, Bool.false_eq_true] at hc) | skip)) | (refine And.intro (by first | exact trivial | decide | omega | (dsimp only; omega) | exact fun _ _ => rfl | exact ⟨by assumption, by first | exact trivial | decide | omega | (dsimp only; omega)⟩) ?_) | (apply And.intro) | (intro s hs))
  · rename_i s1 hs1
    refine loop_intro (mono_of LT1_ok) (fun s : GrpS n l => (⟨[(0, one (.ptr 0 0 0 false)), (2, one (.ptr 1 0 0 false)), (3, one (.ptr 3 0 0 false)), (4, one (.int .i64 (s.i : Int)))],
      [(0, some (tapeN n (rI l) s.q)), (1, some ⟨24, 1, 16, true, fun _ _ => .top⟩), (3, some ⟨24, 1, 16, true, fun _ => (eA .u8 16).cell s.a⟩)], 50⟩ : Hd)) (fun s => s.i) (fun _ => rfl) ?_ ⟨15, fun q => if q.1 = 0 then 255 else if q.1 = 1 then IntKind.u8.wrap s1 else 0, _, by omega, ⟨fun q => by have := u8r s1; split <;> (try split) <;> omega⟩, hs⟩ [] ?_
    · rintro ⟨i, a, q1, hi, ha, ht1⟩
      dsimp only at hi ⊢
      repeat' (first | (apply And.intro <;> intro hc <;> (first | exact Bool.noConfusion hc | (simp only [decide_eq_true_eq, decide_eq_false_iff_not, Bool.not_eq_true', Bool.not_eq_false', beq_iff_eq, beq_eq_false_iff_ne, bne_iff_ne, bne_eq_false_iff_eq, Bool.true_eq_false, Bool.false_eq_true] at hc) | skip)) | (refine And.intro (by first | exact trivial | decide | omega | (dsimp only; omega) | exact fun _ _ => rfl | exact ⟨by assumption, by first | exact trivial | decide | omega | (dsimp only; omega)⟩) ?_) | (apply And.intro) | (intro s hs))
      · rename_i s1 hs1 sq1 hsq1 s2 hs2
        have hs1' : 0 ≤ s1 ∧ s1 < 15 := hs1
        have hw : IntKind.i64.wrap (15 - s1) = 15 - s1 := IntWalk.i64_in _ (by omega)
        have hc' : IntKind.i64.wrap (15 - s1) < (i : Int) := by assumption
        have hi2 : 1 ≤ i := by omega
        refine ⟨⟨i - 1, setV a i (IntKind.u8.wrap s2), _, by omega, setV_ok ha (u8r _), hs⟩, [], by dsimp only; omega, rfl, ?_, ?_⟩
        · repeat' (first | exact trivial | exact rfl | exact leF_ptr rfl | exact leF_int rfl | exact leF_bool rfl | exact leF_cl (cl_slB _ _) | exact leF_cl (cl_slR _ _) | exact leF_cl (cl_ll _ _) | exact leF_c (leC_os rfl rfl) | refine leF_int ?_ | refine leF_bool ?_ | exact leN_varA (fun _ _ => (Elem.flat _ _ _).le) | exact leN_varA (fun _ _ => leC_top) | apply And.intro)
          refine (IntWalk.i64_in _ ?_).trans ?_
          · constructor <;> omega
          · dsimp only
            omega
        · repeat' (first | exact trivial | exact rfl | exact leF_ptr rfl | exact leF_int rfl | exact leF_bool rfl | exact leF_cl (cl_slB _ _) | exact leF_cl (cl_slR _ _) | exact leF_cl (cl_ll _ _) | exact leF_c (leC_os rfl rfl) | refine leF_int ?_ | refine leF_bool ?_ | exact leN_varA (fun _ _ => (Elem.flat _ _ _).le) | exact leN_varA (fun _ _ => leC_top) | apply And.intro)
          · exact tapeN_le
          · refine leN_varA fun j hj => ?_
            exact leC_int (setV_at (j := j) (by omega) hj)
      · exact ⟨(a, _), ⟨ha, by assumption⟩, ⟨leF_e (leE_all (by repeat' (first | exact trivial | exact rfl | exact leC_int rfl | exact leC_bool rfl | refine leE_all ?_ | exact leC_bool (by assumption) | apply And.intro))), tapeN_le⟩⟩
    · refine ⟨rfl, ?_, ?_⟩
      · repeat' (first | exact trivial | exact rfl | exact leF_ptr rfl | exact leF_int rfl | exact leF_bool rfl | exact leF_cl (cl_slB _ _) | exact leF_cl (cl_slR _ _) | exact leF_cl (cl_ll _ _) | exact leF_c (leC_os rfl rfl) | refine leF_int ?_ | refine leF_bool ?_ | exact leN_varA (fun _ _ => (Elem.flat _ _ _).le) | exact leN_varA (fun _ _ => leC_top) | apply And.intro)
      · repeat' (first | exact trivial | exact rfl | exact leF_ptr rfl | exact leF_int rfl | exact leF_bool rfl | exact leF_cl (cl_slB _ _) | exact leF_cl (cl_slR _ _) | exact leF_cl (cl_ll _ _) | exact leF_c (leC_os rfl rfl) | refine leF_int ?_ | refine leF_bool ?_ | exact leN_varA (fun _ _ => (Elem.flat _ _ _).le) | exact leN_varA (fun _ _ => leC_top) | apply And.intro)
        · exact tapeN_le
        · refine leN_var ?_
          repeat' (first | exact trivial | exact leC_int rfl | apply And.intro)
  · skip
    refine loop_intro (mono_of LT1_ok) (fun s : GrpS n l => (⟨[(0, one (.ptr 0 0 0 false)), (2, one (.ptr 1 0 0 false)), (3, one (.ptr 3 0 0 false)), (4, one (.int .i64 (s.i : Int)))],
      [(0, some (tapeN n (rI l) s.q)), (1, some ⟨24, 1, 16, true, fun _ _ => .top⟩), (3, some ⟨24, 1, 16, true, fun _ => (eA .u8 16).cell s.a⟩)], 50⟩ : Hd)) (fun s => s.i) (fun _ => rfl) ?_ ⟨15, fun q => if q.1 = 0 then 255 else if q.1 = 1 then 2 else 0, _, by omega, ⟨fun q => by split <;> (try split) <;> omega⟩, hs⟩ [] ?_
    · rintro ⟨i, a, q1, hi, ha, ht1⟩
      dsimp only at hi ⊢
      repeat' (first | (apply And.intro <;> intro hc <;> (first | exact Bool.noConfusion hc | (simp only [decide_eq_true_eq, decide_eq_false_iff_not, Bool.not_eq_true', Bool.not_eq_false', beq_iff_eq, beq_eq_false_iff_ne, bne_iff_ne, bne_eq_false_iff_eq, Bool.true_eq_false, Bool.false_eq_true] at hc) | skip)) | (refine And.intro (by first | exact trivial | decide | omega | (dsimp only; omega) | exact fun _ _ => rfl | exact ⟨by assumption, by first | exact trivial | decide | omega | (dsimp only; omega)⟩) ?_) | (apply And.intro) | (intro s hs))
      · rename_i s1 hs1 sq1 hsq1 s2 hs2
        have hs1' : 0 ≤ s1 ∧ s1 < 15 := hs1
        have hw : IntKind.i64.wrap (15 - s1) = 15 - s1 := IntWalk.i64_in _ (by omega)
        have hc' : IntKind.i64.wrap (15 - s1) < (i : Int) := by assumption
        have hi2 : 1 ≤ i := by omega
        refine ⟨⟨i - 1, setV a i (IntKind.u8.wrap s2), _, by omega, setV_ok ha (u8r _), hs⟩, [], by dsimp only; omega, rfl, ?_, ?_⟩
        · repeat' (first | exact trivial | exact rfl | exact leF_ptr rfl | exact leF_int rfl | exact leF_bool rfl | exact leF_cl (cl_slB _ _) | exact leF_cl (cl_slR _ _) | exact leF_cl (cl_ll _ _) | exact leF_c (leC_os rfl rfl) | refine leF_int ?_ | refine leF_bool ?_ | exact leN_varA (fun _ _ => (Elem.flat _ _ _).le) | exact leN_varA (fun _ _ => leC_top) | apply And.intro)
          refine (IntWalk.i64_in _ ?_).trans ?_
          · constructor <;> omega
          · dsimp only
            omega
        · repeat' (first | exact trivial | exact rfl | exact leF_ptr rfl | exact leF_int rfl | exact leF_bool rfl | exact leF_cl (cl_slB _ _) | exact leF_cl (cl_slR _ _) | exact leF_cl (cl_ll _ _) | exact leF_c (leC_os rfl rfl) | refine leF_int ?_ | refine leF_bool ?_ | exact leN_varA (fun _ _ => (Elem.flat _ _ _).le) | exact leN_varA (fun _ _ => leC_top) | apply And.intro)
          · exact tapeN_le
          · refine leN_varA fun j hj => ?_
            exact leC_int (setV_at (j := j) (by omega) hj)
      · exact ⟨(a, _), ⟨ha, by assumption⟩, ⟨leF_e (leE_all (by repeat' (first | exact trivial | exact rfl | exact leC_int rfl | exact leC_bool rfl | refine leE_all ?_ | exact leC_bool (by assumption) | apply And.intro))), tapeN_le⟩⟩
    · refine ⟨rfl, ?_, ?_⟩
      · repeat' (first | exact trivial | exact rfl | exact leF_ptr rfl | exact leF_int rfl | exact leF_bool rfl | exact leF_cl (cl_slB _ _) | exact leF_cl (cl_slR _ _) | exact leF_cl (cl_ll _ _) | exact leF_c (leC_os rfl rfl) | refine leF_int ?_ | refine leF_bool ?_ | exact leN_varA (fun _ _ => (Elem.flat _ _ _).le) | exact leN_varA (fun _ _ => leC_top) | apply And.intro)
      · repeat' (first | exact trivial | exact rfl | exact leF_ptr rfl | exact leF_int rfl | exact leF_bool rfl | exact leF_cl (cl_slB _ _) | exact leF_cl (cl_slR _ _) | exact leF_cl (cl_ll _ _) | exact leF_c (leC_os rfl rfl) | refine leF_int ?_ | refine leF_bool ?_ | exact leN_varA (fun _ _ => (Elem.flat _ _ _).le) | exact leN_varA (fun _ _ => leC_top) | apply And.intro)
        · exact tapeN_le
        · refine leN_var ?_
          repeat' (first | exact trivial | exact leC_int rfl | apply And.intro)
abbrev pfxE : Entry := tapeE AC.nil (fun _ => True) (fun a (r : Pfx) => vpf r = true ∧ byteOk r.ip) (cE ePfx).enc
abbrev devE : Entry := tapeE AC.nil (fun _ => True) (fun a (r : Adr) => True) (cE eAdr).enc
abbrev grpE : Entry := tapeE AC.nil (fun _ => True) (fun a (r : Fin 16 → Int) => byteOk r) (cE (eA .u8 16)).enc
def LT2a : CsL := (43, some pfxE) :: (42, some devE) :: (62, some grpE) :: (46, some (pureE (AC.cons (cE eAdr) AC.nil) (fun _ => True) (fun a => iidF a.1) encIB)) :: []
theorem LT2a_ok : AllOk Try.prog LT2a := ⟨tapeE_ok ⟨_, Try.func43, rfl, by kernel_rfl⟩ fun n l q a ht hp => prefix_ok n l q ht, tapeE_ok ⟨_, Try.func42, rfl, by kernel_rfl⟩ fun n l q a ht hp => device_ok n l q ht, tapeE_ok ⟨_, Try.func62, rfl, by kernel_rfl⟩ fun n l q a ht hp => group_ok n l q ht, pureE_ok ⟨_, Try.func46, rfl, by kernel_rfl⟩ fun a _ => iid_ok a.1, trivial⟩
def LT2 : CsL := LT2a ++ LT1
theorem LT2_ok : AllOk Try.prog LT2 := append_ok LT2a_ok LT1_ok
end Go.Proofs.Ytjknkfjhcapocaa.AX
/- Plain functions of compressed headers, and the laws of their lengths. -/
namespace Go.Proofs.Ytjknkfjhcapocaa.AX
open Go.RowKit
set_option linter.unusedVariables false
set_option linter.unusedSimpArgs false
structure Fm where
  ctx : Bool
  id : Int
  mode : Int
instance : Inhabited Fm := ⟨⟨false, 0, 0⟩⟩
def eFmC (x : Fm) (j : Nat) : CV := bif Nat.beq j 0 then .bool x.ctx else bif Nat.beq j 1 then .int .i64 x.id else (.int .i64 x.mode)
def eFm : Elem Fm where
  sz := 3
  cell := eFmC
  rd g := ⟨valB (g 0), valI (g 1), valI (g 2)⟩
  ok g := isB (g 0) && isK .i64 (g 1) && isK .i64 (g 2)
  ok_eq g h j hj := by
    simp only [Bool.and_eq_true] at h
    unfold eFmC
    by_cases c0 : j < 1
    · have e : j = 0 := by omega
      subst e
      exact isB_eq h.1.1
    by_cases c1 : j < 2
    · have e : j = 1 := by omega
      subst e
      exact isK_eq h.1.2
    by_cases c2 : j < 3
    · have e : j = 2 := by omega
      subst e
      exact isK_eq h.2
    omega
  flat a j := by
    unfold eFmC
    cases Nat.beq j 0 with
    | true => exact flat_bool
    | false =>
    cases Nat.beq j 1 with
    | true => exact flat_int
    | false =>
    exact flat_int
theorem eFm_sz : 0 < eFm.sz := by decide
theorem eFm_rd (x : Fm) : eFm.rd (eFm.cell x) = x := by
  show (⟨x.ctx, x.id, x.mode⟩ : Fm) = x
  rfl
theorem eFm_ok (x : Fm) : eFm.ok (eFm.cell x) = true := rfl
abbrev Form := Fm × List Int
def zeroA : Fin 16 → Int := fun _ => 0
def iidsF (iid : Int) (k : Adr) : Int × List Int :=
  if iidF k = (iid, true) then (3, []) else if bits .andNot .u64 iid 65535 = 1099478073344 then (2, beB iid 2) else (1, beB iid 8)
def coverF (a : Fin 16 → Int) (l : List Ctx) (now : Int) : Bool := (forCom l a now).2 && decide ((forCom l a now).1.bits ≤ 64) && decide (hiF (forCom l a now).1.ip = hiF a)
def uniF (a : Fin 16 → Int) (k : Adr) (source : Bool) (l : List Ctx) (now : Int) : Form :=
  if source = true ∧ ipEq a zeroA = true then (⟨true, 0, 0⟩, [])
  else if hiF a = 18338657682652659712 then (⟨false, 0, (iidsF (loF a) k).1⟩, (iidsF (loF a) k).2)
  else if coverF a l now = true then (⟨true, (forCom l a now).1.id, (iidsF (loF a) k).1⟩, (iidsF (loF a) k).2)
  else (⟨false, 0, 0⟩, ipL a)
def zr (a : Fin 16 → Int) (i j : Nat) : Bool := (((ipL a).drop i).take (j - i)).all fun x => x == 0
def grpF (a : Fin 16 → Int) : Form :=
  if vget a 1 = 2 ∧ zr a 2 15 = true then (⟨false, 0, 3⟩, [vget a 15])
  else if zr a 2 13 = true then (⟨false, 0, 2⟩, [vget a 1, vget a 13, vget a 14, vget a 15])
  else if zr a 2 11 = true then (⟨false, 0, 1⟩, [vget a 1, vget a 11, vget a 12, vget a 13, vget a 14, vget a 15])
  else (⟨false, 0, 0⟩, ipL a)
/-- F and the bytes of class and flow. -/
def flowF (p : Pkt) : Int × List Int :=
  if p.1.cls ≠ 0 ∧ p.1.flow ≠ 0 then (0, [p.1.cls] ++ beB p.1.flow 3)
  else if p.1.flow ≠ 0 then (1, [] ++ beB p.1.flow 3)
  else if p.1.cls ≠ 0 then (2, [p.1.cls])
  else (3, [])
def hopF (h : Int) : Int := if h = 1 then 1 else if h = 64 then 2 else if h = 255 then 3 else 0
def bitV (b : Bool) (v : Int) : Int := if b = true then v else 0
def inlF (p : Pkt) : List Int := (flowF p).2 ++ (if p.1.nxt = 17 then [] else [p.1.nxt]) ++ (if hopF p.1.hops = 0 then [p.1.hops] else [])
def firstF (p : Pkt) : Int := 96 + 8 * (flowF p).1 + bitV (decide (p.1.nxt = 17)) 4 + hopF p.1.hops
def checkF (f t : Adr) (l : List Ctx) (now : Int) : Int := if adrValid f = true ∧ adrValid t = true ∧ validT l = true then (if vt now = true then 0 else 2) else 1
def dstF (p : Pkt) (t : Adr) (l : List Ctx) (now : Int) : Form := if mcast p.1.dst = true then grpF p.1.dst else uniF p.1.dst t false l now
def secF (s d : Fm) (m : Bool) : Int := bitV (decide (16 * s.id + d.id ≠ 0)) 128 + bitV s.ctx 64 + 16 * s.mode + bitV m 8 + bitV d.ctx 4 + d.mode
def joinH (p : Pkt) (s d : Form) : List Int := [firstF p, secF s.1 d.1 (mcast p.1.dst)] ++ (if 16 * s.1.id + d.1.id ≠ 0 then [16 * s.1.id + d.1.id] else []) ++ inlF p ++ s.2 ++ d.2
def encI (p : Pkt) (f t : Adr) (l : List Ctx) (now : Int) : List Int × Int :=
  if validP p = false then ([], 1)
  else if checkF f t l now ≠ 0 then ([], checkF f t l now)
  else (joinH p (uniF p.1.src f true l now) (dstF p t l now), 0)
/-! ### Lengths -/
theorem beB_n (v : Int) (n : Nat) (h : n ≤ 8) : (beB v n).length = n := by
  unfold beB
  rw [if_pos (by omega), beN_len]
  omega
theorem iids_len (y : Int) (k : Adr) : (iidsF y k).2.length ≤ 8 := by
  unfold iidsF
  split
  · simp
  · split
    · exact Nat.le_trans (Nat.le_of_eq (beB_n y 2 (by decide))) (by decide)
    · exact Nat.le_of_eq (beB_n y 8 (by decide))
theorem uni_len (a : Fin 16 → Int) (k : Adr) (s : Bool) (l : List Ctx) (now : Int) : (uniF a k s l now).2.length ≤ 16 := by
  have := iids_len (loF a) k
  unfold uniF
  split
  · simp
  · split
    · dsimp only; omega
    · split
      · dsimp only; omega
      · dsimp only; rw [ipL_len]; exact Nat.le_refl _
theorem grp_len (a : Fin 16 → Int) : (grpF a).2.length ≤ 16 ∧ (grpF a).1.id = 0 := by
  unfold grpF
  split
  · exact ⟨by simp, rfl⟩
  · split
    · exact ⟨by simp, rfl⟩
    · split
      · exact ⟨by simp, rfl⟩
      · exact ⟨by dsimp only; rw [ipL_len]; exact Nat.le_refl _, rfl⟩
theorem inl_len (p : Pkt) : (inlF p).length ≤ 6 := by
  have h3 := beB_n p.1.flow 3 (by decide)
  have h3' : (beB p.1.flow 3).length = 3 := h3
  have h1 : (flowF p).2.length ≤ 4 := by
    unfold flowF
    split
    · simp [h3']
    · split
      · simp [h3']
      · split <;> simp
  unfold inlF
  rw [List.length_append, List.length_append]
  have h4 : (if p.1.nxt = 17 then [] else [p.1.nxt]).length ≤ 1 := by split <;> simp
  have h5 : (if hopF p.1.hops = 0 then [p.1.hops] else []).length ≤ 1 := by split <;> simp
  omega
theorem join_len (p : Pkt) (s d : Form) : (joinH p s d).length = 2 + (if 16 * s.1.id + d.1.id ≠ 0 then 1 else 0) + (inlF p).length + s.2.length + d.2.length := by
  unfold joinH
  simp only [List.length_append, List.length_cons, List.length_nil]
  split <;> simp
theorem forCom_nil (a : Fin 16 → Int) (now : Int) : (forCom [] a now).2 = false := by
  unfold forCom
  split <;> rfl
theorem uni_nil (a : Fin 16 → Int) (k : Adr) (s : Bool) (now : Int) : (uniF a k s [] now).1.id = 0 := by
  unfold uniF coverF
  rw [forCom_nil]
  split
  · rfl
  · split
    · rfl
    · rw [if_neg (by simp)]
theorem forCom_id {l : List Ctx} {a : Fin 16 → Int} {now : Int} (h : (forCom l a now).2 = true) : 0 ≤ (forCom l a now).1.id ∧ (forCom l a now).1.id < 16 := by
  obtain ⟨h1, _, h2, _⟩ := forCom_in h
  have := valid_lt h1 h2
  omega
theorem uni_id (a : Fin 16 → Int) (k : Adr) (s : Bool) (l : List Ctx) (now : Int) : 0 ≤ (uniF a k s l now).1.id ∧ (uniF a k s l now).1.id < 16 := by
  unfold uniF
  split
  · exact ⟨(by decide : (0 : Int) ≤ 0), (by decide : (0 : Int) < 16)⟩
  · split
    · exact ⟨(by decide : (0 : Int) ≤ 0), (by decide : (0 : Int) < 16)⟩
    · split
      · rename_i h
        unfold coverF at h
        simp only [Bool.and_eq_true] at h
        exact forCom_id h.1.1
      · exact ⟨(by decide : (0 : Int) ≤ 0), (by decide : (0 : Int) < 16)⟩
/-- A context saves more bytes than its number costs. -/
theorem uni_less (a : Fin 16 → Int) (k : Adr) (s : Bool) (l : List Ctx) (now now' : Int) : (uniF a k s l now).2.length ≤ (uniF a k s [] now').2.length ∧ ((uniF a k s l now).1.id ≠ 0 → (uniF a k s l now).2.length + 8 ≤ (uniF a k s [] now').2.length) := by
  have h8 := iids_len (loF a) k
  have hn : coverF a [] now' = false := by unfold coverF; rw [forCom_nil]; rfl
  unfold uniF
  rw [hn]
  by_cases h1 : s = true ∧ ipEq a zeroA = true
  · rw [if_pos h1, if_pos h1]
    exact ⟨Nat.le_refl _, fun h => absurd rfl h⟩
  · rw [if_neg h1, if_neg h1]
    by_cases h2 : hiF a = 18338657682652659712
    · rw [if_pos h2, if_pos h2]
      exact ⟨Nat.le_refl _, fun h => absurd rfl h⟩
    · rw [if_neg h2, if_neg h2, if_neg (show ¬ (false = true) by decide)]
      dsimp only
      rw [ipL_len]
      split
      · dsimp only
        exact ⟨by omega, fun _ => by omega⟩
      · dsimp only
        rw [ipL_len]
        exact ⟨Nat.le_refl _, fun h => absurd rfl h⟩
theorem dst_less (p : Pkt) (k : Adr) (l : List Ctx) (now now' : Int) : (dstF p k l now).2.length ≤ (dstF p k [] now').2.length ∧ ((dstF p k l now).1.id ≠ 0 → (dstF p k l now).2.length + 8 ≤ (dstF p k [] now').2.length) := by
  unfold dstF
  split
  · exact ⟨Nat.le_refl _, fun h => absurd (grp_len _).2 h⟩
  · exact uni_less _ _ _ _ _ _
theorem dst_id (p : Pkt) (k : Adr) (l : List Ctx) (now : Int) : 0 ≤ (dstF p k l now).1.id ∧ (dstF p k l now).1.id < 16 := by
  unfold dstF
  split
  · rw [(grp_len _).2]; exact ⟨by decide, by decide⟩
  · exact uni_id _ _ _ _ _
theorem dst_nil (p : Pkt) (k : Adr) (now : Int) : (dstF p k [] now).1.id = 0 := by
  unfold dstF
  split
  · exact (grp_len _).2
  · exact uni_nil _ _ _ _
theorem dst_len (p : Pkt) (k : Adr) (l : List Ctx) (now : Int) : (dstF p k l now).2.length ≤ 16 := by
  unfold dstF
  split
  · exact (grp_len _).1
  · exact uni_len _ _ _ _ _
theorem encI_ok {p : Pkt} {f t : Adr} {l : List Ctx} {now : Int} (hp : validP p = true) (hf : adrValid f = true) (ht : adrValid t = true) (hl : validT l = true) (hn : vt now = true) : encI p f t l now = (joinH p (uniF p.1.src f true l now) (dstF p t l now), 0) := by
  have hc : checkF f t l now = 0 := by unfold checkF; rw [if_pos ⟨hf, ht, hl⟩, if_pos hn]
  unfold encI
  rw [if_neg (by rw [hp]; decide), if_neg (by rw [hc]; decide)]
/-- IphcShort. -/
theorem short_law {p : Pkt} {a b : Adr} {l : List Ctx} {now : Int} (hp : validP p = true) (ha : adrValid a = true) (hb : adrValid b = true) (hl : validT l = true) (hn : vt now = true) :
    ∃ c d, encI p a b l now = (c, 0) ∧ encI p a b [] 0 = (d, 0) ∧ 2 ≤ c.length ∧ c.length ≤ d.length ∧ d.length ≤ 40 := by
  refine ⟨_, _, encI_ok hp ha hb hl hn, encI_ok hp ha hb rfl rfl, ?_, ?_, ?_⟩
  · rw [join_len]; omega
  · rw [join_len, join_len, uni_nil, dst_nil, if_neg (show ¬ ((16 : Int) * 0 + 0 ≠ 0) by decide)]
    obtain ⟨s1, s2⟩ := uni_less p.1.src a true l now 0
    obtain ⟨d1, d2⟩ := dst_less p b l now 0
    by_cases e1 : (uniF p.1.src a true l now).1.id = 0
    · by_cases e2 : (dstF p b l now).1.id = 0
      · rw [e1, e2, if_neg (show ¬ ((16 : Int) * 0 + 0 ≠ 0) by decide)]
        omega
      · have := d2 e2
        split <;> omega
    · have := s2 e1
      split <;> omega
  · rw [join_len, uni_nil, dst_nil, if_neg (show ¬ ((16 : Int) * 0 + 0 ≠ 0) by decide)]
    have h1 := uni_len p.1.src a true [] 0
    have h2 := dst_len p b [] 0
    have h3 := inl_len p
    omega
/-! ### What costs no bytes -/
theorem u64_r (z : Int) : 0 ≤ IntKind.u64.wrap z ∧ IntKind.u64.wrap z < 18446744073709551616 := by
  simp only [IntKind.wrap, IntKind.signed, IntKind.bits]
  constructor
  · exact Int.emod_nonneg _ (by decide)
  · exact Int.emod_lt_of_pos _ (by decide)
theorem iid_lt (a : Adr) (he : 0 ≤ a.eui ∧ a.eui < 18446744073709551616) : 0 ≤ (iidF a).1 ∧ (iidF a).1 < 18446744073709551616 := by
  unfold iidF
  split
  · split
    · dsimp only
      rw [u64_xor _ _ he.1 he.2 (by decide) (by decide)]
      have := Nat.xor_lt_two_pow (n := 64) (x := a.eui.toNat) (y := (144115188075855872 : Int).toNat) (by omega) (by decide)
      omega
    · exact u64_r _
  · exact ⟨by decide, by decide⟩
theorem mask_jn {p : Pfx} (hp : byteOk p.ip) (hv : vpf p = true) (hb : p.bits ≤ 64) (y : Int) : maskP (jn p.ip y) p.bits = p := by
  obtain ⟨h1, h2⟩ := (vpf_iff hp).1 hv
  refine (mask_iff (jn_ok hp y) hp).2 ⟨h1, fun i hi => ?_⟩
  split
  · rename_i h
    unfold bitF
    rw [jn_at _ _ (by omega), if_pos (by omega)]
  · rename_i h
    exact h2 i hi (by omega)
theorem forCom_one {p : Pfx} (hp : byteOk p.ip) (hv : vpf p = true) (hb : p.bits ≤ 64) (y id : Int) (hid : 0 ≤ id ∧ id < 16) : forCom [⟨id, p.ip, p.bits, true, 9⟩] (jn p.ip y) 8 = (⟨id, p.ip, p.bits, true, 9⟩, true) := by
  have h1 : validT [⟨id, p.ip, p.bits, true, 9⟩] = true := valid_cons.2 ⟨by show (-1 : Int) < id; omega, hid.2, hv, rfl, rfl⟩
  unfold forCom
  rw [if_pos ⟨h1, rfl⟩, foldC, if_pos ?_]
  · rfl
  · unfold better
    simp only [Bool.and_eq_true]
    refine ⟨⟨rfl, ?_⟩, rfl⟩
    show pEq (maskP (jn p.ip y) p.bits) p = true
    rw [pEq_iff]
    exact mask_jn hp hv hb y
theorem iids_own {k : Adr} {y : Int} (h : iidF k = (y, true)) : iidsF y k = (3, []) := if_pos h
/-- A packet of few fields. -/
def hP (hops : Int) (src dst : Fin 16 → Int) : Pkt := (⟨0, 0, 17, hops, src, dst, 0, 0⟩, [])
theorem hP_v {hops : Int} {src dst : Fin 16 → Int} (h : vget src 0 ≠ 255) : validP (hP hops src dst) = true := by
  unfold validP mcast
  rw [show (hP hops src dst).1.src = src from rfl, decide_eq_false h]
  rfl
theorem hP_inl (src dst : Fin 16 → Int) : (inlF (hP 255 src dst)).length = 0 := rfl
theorem adr_v {a : Adr} (h : adrSome a = true) : adrValid a = true := by
  unfold adrSome at h
  rw [Bool.and_eq_true] at h
  exact h.1
theorem iid_own {a : Adr} (h : adrSome a = true) : iidF a = ((iidF a).1, true) := by
  have : (iidF a).2 = true := by unfold iidF; rw [if_pos h]; split <;> rfl
  rw [← this]
theorem uni_own {p : Pfx} {y : Int} {k : Adr} {s : Bool} {l : List Ctx} {now : Int} (hy : iidF k = (y, true)) (h64 : 0 ≤ y ∧ y < 18446744073709551616) (hl : hiF p.ip = 18338657682652659712 ∨ coverF (jn p.ip y) l now = true) : (uniF (jn p.ip y) k s l now).2 = [] := by
  unfold uniF
  rw [jn_lo h64, iids_own hy, jn_hi]
  split
  · rfl
  · split
    · rfl
    · rename_i h
      rw [if_pos (hl.resolve_left h)]
theorem mc_jn {p : Fin 16 → Int} {y : Int} : mcast (jn p y) = mcast p := by
  unfold mcast
  rw [jn_at _ _ (by decide), if_pos (by decide)]
theorem elides_1 {a b : Adr} (ha : adrSome a = true) (hb : adrSome b = true) (ea : 0 ≤ a.eui ∧ a.eui < 18446744073709551616) (eb : 0 ≤ b.eui ∧ b.eui < 18446744073709551616) :
    ∃ c, encI (hP 255 (jn llP.ip (iidF a).1) (jn llP.ip (iidF b).1)) a b [] 0 = (c, 0) ∧ c.length = 2 := by
  refine ⟨_, encI_ok (hP_v ?_) (adr_v ha) (adr_v hb) rfl rfl, ?_⟩
  · rw [jn_at _ _ (by decide), if_pos (by decide)]
    decide
  · have h2 : dstF (hP 255 (jn llP.ip (iidF a).1) (jn llP.ip (iidF b).1)) b [] 0 = uniF (jn llP.ip (iidF b).1) b false [] 0 := by
      unfold dstF
      rw [show (hP 255 (jn llP.ip (iidF a).1) (jn llP.ip (iidF b).1)).1.dst = jn llP.ip (iidF b).1 from rfl, mc_jn]
      rfl
    rw [join_len, hP_inl, h2, show (hP 255 (jn llP.ip (iidF a).1) (jn llP.ip (iidF b).1)).1.src = jn llP.ip (iidF a).1 from rfl, uni_nil, uni_nil, uni_own (iid_own ha) (iid_lt a ea) (.inl llP_hi), uni_own (iid_own hb) (iid_lt b eb) (.inl llP_hi)]
    rfl
theorem pfx_zero {p : Pfx} (hp : byteOk p.ip) (hv : vpf p = true) (hb : p.bits ≤ 64) : jn p.ip 0 = p.ip := by
  obtain ⟨h1, h2⟩ := (vpf_iff hp).1 hv
  refine ip_ext (jn_ok hp 0) hp fun i hi => ?_
  by_cases h : i < 64
  · unfold bitF
    rw [jn_at _ _ (by omega), if_pos (by omega)]
  · rw [h2 i hi (by omega)]
    unfold bitF
    rw [jn_at _ _ (by omega), if_neg (by omega)]
    have h0 : ∀ j, j < 8 → byteM 0 8 j = 0 := by decide +kernel
    rw [h0 _ (by omega)]
    have : ∀ k, k < 8 → bt 0 ((k : Nat) : Int) = 0 := by decide +kernel
    exact this _ (by omega)
theorem elides_2 {a b : Adr} {p : Pfx} {id : Int} (ha : adrSome a = true) (hb : adrSome b = true) (ea : 0 ≤ a.eui ∧ a.eui < 18446744073709551616) (eb : 0 ≤ b.eui ∧ b.eui < 18446744073709551616)
    (hp : byteOk p.ip) (hv : vpf p = true) (h64 : p.bits ≤ 64) (hm : mcast p.ip = false) (hid : 0 ≤ id ∧ id < 16) :
    ∃ c, encI (hP 255 (jn p.ip (iidF a).1) (jn p.ip (iidF b).1)) a b [⟨id, p.ip, p.bits, true, 9⟩] 8 = (c, 0) ∧ c.length ≤ 3 ∧ (c.length = 2 ↔ id = 0 ∨ p.ip = jn llP.ip 0) := by
  have hvt : validT [⟨id, p.ip, p.bits, true, 9⟩] = true := valid_cons.2 ⟨by show (-1 : Int) < id; omega, hid.2, hv, rfl, rfl⟩
  have hcv : ∀ y, coverF (jn p.ip y) [⟨id, p.ip, p.bits, true, 9⟩] 8 = true := fun y => by
    unfold coverF
    rw [forCom_one hp hv h64 y id hid, jn_hi]
    simp [h64]
  have hm0 : vget p.ip 0 ≠ 255 := of_decide_eq_false hm
  refine ⟨_, encI_ok (hP_v ?_) (adr_v ha) (adr_v hb) hvt rfl, ?_⟩
  · rw [jn_at _ _ (by decide), if_pos (by decide)]
    exact hm0
  · have h2 : dstF (hP 255 (jn p.ip (iidF a).1) (jn p.ip (iidF b).1)) b [⟨id, p.ip, p.bits, true, 9⟩] 8 = uniF (jn p.ip (iidF b).1) b false [⟨id, p.ip, p.bits, true, 9⟩] 8 := by
      unfold dstF
      rw [show (hP 255 (jn p.ip (iidF a).1) (jn p.ip (iidF b).1)).1.dst = jn p.ip (iidF b).1 from rfl, mc_jn, hm]
      rfl
    rw [join_len, hP_inl, h2, show (hP 255 (jn p.ip (iidF a).1) (jn p.ip (iidF b).1)).1.src = jn p.ip (iidF a).1 from rfl, uni_own (iid_own ha) (iid_lt a ea) (.inr (hcv _)), uni_own (iid_own hb) (iid_lt b eb) (.inr (hcv _))]
    simp only [List.length_nil, Nat.add_zero]
    have hll : p.ip = jn llP.ip 0 ↔ hiF p.ip = 18338657682652659712 := by
      constructor
      · intro h; rw [h, jn_hi]; exact llP_hi
      · intro h
        rw [← pfx_zero hp hv h64, ← of_hi hp, ← of_hi llP_b, h, llP_hi]
    have hid1 : (uniF (jn p.ip (iidF a).1) a true [⟨id, p.ip, p.bits, true, 9⟩] 8).1.id = 0 ∨ (hiF p.ip ≠ 18338657682652659712 ∧ (uniF (jn p.ip (iidF a).1) a true [⟨id, p.ip, p.bits, true, 9⟩] 8).1.id = id) := by
      unfold uniF
      rw [hcv, jn_hi]
      split
      · exact .inl rfl
      · split
        · exact .inl rfl
        · rename_i h
          rw [if_pos rfl, forCom_one hp hv h64 _ id hid]
          exact .inr ⟨h, rfl⟩
    have hid2 : (uniF (jn p.ip (iidF b).1) b false [⟨id, p.ip, p.bits, true, 9⟩] 8).1.id = if hiF p.ip = 18338657682652659712 then 0 else id := by
      unfold uniF
      rw [hcv, jn_hi, if_neg (by simp)]
      split
      · rfl
      · rw [if_pos rfl, forCom_one hp hv h64 _ id hid]
    rw [hll, hid2]
    by_cases hL : hiF p.ip = 18338657682652659712
    · rw [if_pos hL, hid1.resolve_right (fun h => h.1 hL)]
      exact ⟨by decide, fun _ => .inr hL, fun _ => by decide⟩
    · rw [if_neg hL]
      by_cases h0 : id = 0
      · subst h0
        have : (uniF (jn p.ip (iidF a).1) a true [⟨0, p.ip, p.bits, true, 9⟩] 8).1.id = 0 := by
          rcases hid1 with h | h
          · exact h
          · exact h.2
        rw [this]
        exact ⟨by decide, fun _ => .inl rfl, fun _ => by decide⟩
      · have : 16 * (uniF (jn p.ip (iidF a).1) a true [⟨id, p.ip, p.bits, true, 9⟩] 8).1.id + id ≠ 0 := by
          rcases hid1 with h | h
          · rw [h]; omega
          · rw [h.2]; omega
        rw [if_pos this]
        refine ⟨by decide, fun h => absurd h (by decide), fun h => ?_⟩
        rcases h with h | h
        · exact absurd h h0
        · exact absurd h hL
end Go.Proofs.Ytjknkfjhcapocaa.AX
/- Addresses by AX2: Valid, IID, Split, Join of the program; Split, Join, LinkLocal of the reference. -/
namespace Go.Proofs.Ytjknkfjhcapocaa.AX
open Go.RowKit
set_option linter.unusedVariables false
set_option linter.unusedSimpArgs false
theorem zero_eq3 (b : Adr) (h : b.mode = 0) : eqFrom (fun q => eAdr.cell b q) (nth [CV.int .i64 0, .int .u16 0, .int .u64 0]) 3 0 = ((b.short == 0) && (b.eui == 0)) := by
  rw [Bool.eq_iff_iff, eqFrom_iff]
  constructor
  · intro g
    have g1 := g 1 (by decide)
    have g2 := g 2 (by decide)
    have g1' : eqCell (.int .u16 b.short) (.int .u16 0) = true := g1
    have g2' : eqCell (.int .u64 b.eui) (.int .u64 0) = true := g2
    simp [eqCell] at g1' g2'
    simp [g1', g2']
  · intro g
    simp at g
    intro i hi
    rcases i with _ | _ | _ | i
    · show eqCell (.int .i64 b.mode) (.int .i64 0) = true
      rw [h]; rfl
    · show eqCell (.int .u16 b.short) (.int .u16 0) = true
      rw [g.1]; rfl
    · show eqCell (.int .u64 b.eui) (.int .u64 0) = true
      rw [g.2]; rfl
    · omega
theorem avalid_ok (a : Adr) : PureOk Try.prog 111 [(cE eAdr).enc a] (cB.enc (adrValid a)) := by
  refine pure_intro (wd := 1) (Q := mkQ LE0) (by decide) tysOk (q_of LE0_ok) mixed Try.func111 rfl _ (by show 1 ≤ _; decide) _ ?_
  repeat' (first | (apply And.intro <;> intro hc <;> (first | exact Bool.noConfusion hc | (simp only [decide_eq_true_eq, decide_eq_false_iff_not, Bool.not_eq_true', Bool.not_eq_false', beq_iff_eq, beq_eq_false_iff_ne, bne_iff_ne, bne_eq_false_iff_eq, Bool.true_eq_false, Bool.false_eq_true] at hc) | skip)) | (refine And.intro (by first | exact trivial | decide | omega | (dsimp only; omega) | exact fun _ _ => rfl) ?_) | (apply And.intro) | (intro s hs))
  all_goals first
    | (refine Done.mk (leF_bool ?_); simp [adrValid, *]; done)
    | (refine Done.mk (leF_bool ((zero_eq3 a (by assumption)).trans ?_)); simp [adrValid, *])
def LAd0 : CsL := (111, some (pureE (AC.cons (cE eAdr) AC.nil) (fun _ => True) (fun a => adrValid a.1) cB.enc)) :: (LE3 ++ LPb)
theorem LAd0_ok : AllOk Try.prog LAd0 := ⟨pureE_ok ⟨_, Try.func111, rfl, by kernel_rfl⟩ fun a _ => avalid_ok a.1, append_ok LE3_ok LPb_ok⟩
theorem iid_2 {a : Adr} (h : adrValid a = true) (h2 : a.mode = 2) : iidF a = (IntKind.u64.wrap (1099478073344 + IntKind.u64.wrap a.short), true) := by
  unfold iidF adrSome
  rw [if_pos (by rw [h, h2]; rfl), if_neg (by rw [h2]; decide)]
theorem iid_3 {a : Adr} (h : adrValid a = true) (h2 : a.mode = 3) : iidF a = (bits .xor .u64 a.eui 144115188075855872, true) := by
  unfold iidF adrSome
  rw [if_pos (by rw [h, h2]; rfl), if_pos h2]
theorem iid_no {a : Adr} (h : adrValid a = false) : iidF a = (0, false) := by
  unfold iidF adrSome
  rw [h]; rfl
theorem iid_0 {a : Adr} (h : adrValid a = true) (h2 : ¬ a.mode = 2) (h3 : ¬ a.mode = 3) : iidF a = (0, false) := by
  have : a.mode = 0 := by
    unfold adrValid at h
    rw [if_neg h2, if_neg h3] at h
    split at h
    · assumption
    · cases h
  unfold iidF adrSome
  rw [if_neg (by rw [this]; simp)]
theorem aiid_ok (a : Adr) : PureOk Try.prog 120 [(cE eAdr).enc a] (encIB (iidF a)) := by
  refine pure_intro (wd := 1) (Q := mkQ LAd0) (by decide) tysOk (q_of LAd0_ok) mixed Try.func120 rfl _ (by show 1 ≤ _; decide) _ ?_
  repeat' (first | (apply And.intro <;> intro hc <;> (first | exact Bool.noConfusion hc | (simp only [decide_eq_true_eq, decide_eq_false_iff_not, Bool.not_eq_true', Bool.not_eq_false', beq_iff_eq, beq_eq_false_iff_ne, bne_iff_ne, bne_eq_false_iff_eq, Bool.true_eq_false, Bool.false_eq_true, ne_eq, not_true_eq_false] at hc <;> first | exact absurd rfl hc | skip) | skip)) | (refine And.intro (by first | exact trivial | decide | omega | (dsimp only; omega) | exact fun _ _ => rfl | exact ⟨by assumption, by first | exact trivial | decide | omega | (dsimp only; omega)⟩) ?_) | (apply And.intro) | (intro s hs; (have q : s = adrValid a := hs.trans (congrArg adrValid (rd_adr a)); clear hs; subst q)))
  all_goals first
    | (rw [iid_no (by assumption)]; exact Done.mk (leF_tup ⟨leC_int rfl, leC_bool rfl, trivial⟩))
    | (rw [iid_2 (by assumption) (by assumption)]; exact Done.mk (leF_tup ⟨leC_int rfl, leC_bool rfl, trivial⟩))
    | (rw [iid_3 (by assumption) (by assumption)]; exact Done.mk (leF_tup ⟨leC_int rfl, leC_bool rfl, trivial⟩))
    | (rw [iid_0 (by assumption) (by assumption) (by assumption)]; exact Done.mk (leF_tup ⟨leC_int rfl, leC_bool rfl, trivial⟩))
def encUU (r : Int × Int) : FV := .tup [.c (.int .u64 r.1), .c (.int .u64 r.2)]
theorem uint_hi (a : Fin 16 → Int) : uintF (ipL a) 0 8 = (hiF a, true) := by
  unfold uintF hiF
  rw [if_pos (by rw [ipL_len]; omega)]; rfl
theorem uint_lo (a : Fin 16 → Int) : uintF (ipL a) 8 8 = (loF a, true) := by
  unfold uintF loF
  rw [if_pos (by rw [ipL_len]; omega)]
  show (beVal ((List.drop 8 (ipL a)).take 8), true) = _
  rw [List.take_of_length_le (by rw [List.length_drop, ipL_len]; decide)]
theorem ip_toL (a : Fin 16 → Int) {n : Nat} {F : Nat → Nat → CV} (hn : n = 16) (h : ∀ k, F k 0 = .int .u8 (vget a k)) : toL eB n F = ipL a := by
  subst hn
  exact toL_ip fun k _ => h k
theorem ip_fn (a : Fin 16 → Int) : toL eB (16 - 0) (fun k q => (fun x : Nat => (eA IntKind.u8 16).cell a) 0 (0 + 0 * 1 + (k * 1 + q))) = ipL a := ip_toL a rfl fun k => congrArg (fun j => CV.int .u8 (vget a j)) (by omega)
theorem ip_len' (a : Fin 16 → Int) : (ipL a).length ≤ 70368744177664 := by rw [ipL_len]; decide
set_option maxRecDepth 20000 in
theorem asplit_ok (a : Fin 16 → Int) (ha : byteOk a) : PureOk Try.prog 113 [(cE (eA .u8 16)).enc a] (encUU (splF a)) := by
  have g1 : True := trivial
  refine pure_intro (wd := 1) (Q := mkQ LAd0) (by decide) tysOk (q_of LAd0_ok) mixed Try.func113 rfl _ (by show 1 ≤ _; decide) _ ?_
  repeat' (first | (apply And.intro <;> intro hc <;> (first | exact Bool.noConfusion hc | (simp only [decide_eq_true_eq, decide_eq_false_iff_not, Bool.not_eq_true', Bool.not_eq_false', beq_iff_eq, beq_eq_false_iff_ne, bne_iff_ne, bne_eq_false_iff_eq, Bool.true_eq_false, Bool.false_eq_true, ne_eq, not_true_eq_false] at hc <;> first | exact absurd rfl hc | skip) | skip)) | (refine And.intro (by first | exact trivial | decide | omega | (dsimp only; omega) | exact fun _ _ => rfl | exact ⟨by assumption, by first | exact trivial | decide | omega | (dsimp only; omega)⟩) ?_) | (apply And.intro) | (intro s hs; (first | (clear g1; have q : s = (hiF a, true) := hs.trans ((congrArg (fun l => uintF l 0 8) (ip_fn a)).trans (uint_hi a)); clear hs; subst q) | (have q : s = (loF a, true) := hs.trans ((congrArg (fun l => uintF l 8 8) (ip_fn a)).trans (uint_lo a)); clear hs; subst q))))
  all_goals first
    | exact fun i hi => rfl
    | exact Eq.mp (congrArg BL (ip_fn a).symm) (ipBL ha)
    | exact Eq.mp (congrArg (fun l : List Int => l.length ≤ 70368744177664) (ip_fn a).symm) (ip_len' a)
    | exact Done.mk (leF_tup ⟨leC_int rfl, leC_int rfl, trivial⟩)
def joinF (p : Pfx) (y : Int) : (Fin 16 → Int) × Bool := if vpf p = true ∧ p.bits ≤ 64 then (jn p.ip y, true) else (zeroA, false)
def encIpB (r : (Fin 16 → Int) × Bool) : FV := .tup [.agg 16 ((eA .u8 16).cell r.1), .c (.bool r.2)]
theorem beB_M (y : Int) : [] ++ beB y 8 = beM y 8 := by rw [List.nil_append, beB8, beM_eq y 8 (by decide)]
set_option maxRecDepth 20000 in
set_option maxHeartbeats 4000000 in
theorem ajoin_ok (p : Pfx) (y : Int) : PureOk Try.prog 115 [(cE ePfx).enc p, (cI .u64).enc y] (encIpB (joinF p y)) := by
  have g1 : True := trivial
  obtain ⟨J, eJ⟩ : ∃ J, joinF p y = J := ⟨_, rfl⟩
  rw [eJ]
  refine pure_intro (wd := 1) (Q := mkQ LAd0) (by decide) tysOk (q_of LAd0_ok) mixed Try.func115 rfl _ (by show 2 ≤ _; decide) _ ?_
  repeat' (first | (apply And.intro <;> intro hc <;> (first | exact Bool.noConfusion hc | (simp only [decide_eq_true_eq, decide_eq_false_iff_not, Bool.not_eq_true', Bool.not_eq_false', beq_iff_eq, beq_eq_false_iff_ne, bne_iff_ne, bne_eq_false_iff_eq, Bool.true_eq_false, Bool.false_eq_true, ne_eq, not_true_eq_false] at hc <;> first | exact absurd rfl hc | skip) | skip)) | (refine And.intro (by first | exact trivial | decide | omega | (dsimp only; omega) | exact fun _ _ => rfl | exact ⟨by assumption, by first | exact trivial | decide | omega | (dsimp only; omega)⟩) ?_) | (apply And.intro) | (intro s hs; (first | (clear g1; have q : s = vpf p := hs.trans (congrArg vpf (rd_pfx p)); clear hs; subst q) | (have q : s = beM y 8 := hs.trans (beB_M y); clear hs; subst q))))
  · have e : J = (zeroA, false) := by rw [← eJ]; unfold joinF; rw [if_neg (fun h => by have := h.1; simp_all)]
    rw [e]
    refine Done.mk (leF_tup ?_)
    repeat' (first | exact trivial | exact rfl | exact leC_int rfl | exact leC_bool rfl | refine leE_all ?_ | exact leC_bool (by assumption) | apply And.intro)
  · have e : J = (zeroA, false) := by rw [← eJ]; unfold joinF; rw [if_neg (fun h => by have := h.2; omega)]
    rw [e]
    refine Done.mk (leF_tup ?_)
    repeat' (first | exact trivial | exact rfl | exact leC_int rfl | exact leC_bool rfl | refine leE_all ?_ | exact leC_bool (by assumption) | apply And.intro)
  · exact Nat.zero_le _
  · exact Nat.le_refl _
  · have e : J = (jn p.ip y, true) := by rw [← eJ]; unfold joinF; rw [if_pos ⟨by assumption, by omega⟩]
    rw [e]
    exact Done.mk (leF_tup ⟨leE_all (by repeat' (first | exact trivial | exact rfl | exact leC_int rfl | exact leC_bool rfl | refine leE_all ?_ | exact leC_bool (by assumption) | apply And.intro)), leC_bool rfl, trivial⟩)
abbrev aIp : AC ((Fin 16 → Int) × Unit) := AC.cons (cE (eA .u8 16)) AC.nil
def LAd : CsL := (120, some (pureE (AC.cons (cE eAdr) AC.nil) (fun _ => True) (fun a => iidF a.1) encIB)) ::
  (113, some (pureE aIp (fun a => byteOk a.1) (fun a => splF a.1) encUU)) ::
  (115, some (pureE (AC.cons (cE ePfx) (AC.cons (cI .u64) AC.nil)) (fun _ => True) (fun a => joinF a.1 a.2.1) encIpB)) :: LAd0
theorem LAd_ok : AllOk Try.prog LAd := ⟨pureE_ok ⟨_, Try.func120, rfl, by kernel_rfl⟩ fun a _ => aiid_ok a.1, pureE_ok ⟨_, Try.func113, rfl, by kernel_rfl⟩ fun a h => asplit_ok a.1 h, pureE_ok ⟨_, Try.func115, rfl, by kernel_rfl⟩ fun a _ => ajoin_ok a.1 a.2.1, LAd0_ok⟩
end Go.Proofs.Ytjknkfjhcapocaa.AX
/- A pointer to a variable of the caller's as an argument (captured variables of closures). -/
namespace Go.Proofs.Ytjknkfjhcapocaa.AX
open Go.RowKit
set_option linter.unusedVariables false
set_option linter.unusedSimpArgs false
def cPv {α : Type} (E : Elem α) : Codec α where
  enc a := .e (.c (.rp false E.sz (E.cell a)))
  dec H x := match x with
    | .e (.c (.ptr k 0 0 _)) => match hget H k with
      | some e => bif Nat.blt 0 e.n && Nat.beq e.sz E.sz && E.ok (e.f 0) then some (E.rd (e.f 0), none, [k]) else none
      | none => none
    | _ => none
  sound H H' x a p rd h hp hh := by
    split at h
    · rename_i k fl
      split at h
      · rename_i e he
        obtain ⟨hb, h⟩ := cond_some h
        injection h with h h'
        injection h' with h' h''
        subst h h' h''
        rw [Bool.and_eq_true, Bool.and_eq_true] at hb
        have hsz := Nat.eq_of_beq_eq_true hb.1.2
        have he' : hget H' k = some e := by rw [← hh k (List.mem_cons_self ..)]; exact he
        rintro cx r w v st ⟨y, hy, rfl⟩
        refine ⟨⟨y.b, 0 * y.sz + 0, none⟩, rfl, rfl, ?_, (fun h => by cases h), (st.dom k y hy).1, fun j hj => ?_⟩
        · rintro ⟨k2, e2, z, q1, q2, q3, q4⟩
          have := st.inj k2 k e2 _ z y q1 he' q2 hy q3
          exact q4 (by rw [this]; exact List.mem_cons_self ..)
        · obtain ⟨u, hu, hr⟩ := blk_cell st he' hy (i := 0) (j := j) (Nat.le_of_ble_eq_true hb.1.1) (by omega)
          refine ⟨u, hu, ?_⟩
          rw [E.ok_eq _ hb.2 j hj] at hr
          exact E.flat _ _ _ _ _ _ _ _ _ _ _ hr
      · cases h
    · cases h
end Go.Proofs.Ytjknkfjhcapocaa.AX
/- Layer 14 by AX2: the forms of addresses, of the program. -/
namespace Go.Proofs.Ytjknkfjhcapocaa.AX
open Go.RowKit
set_option linter.unusedVariables false
set_option linter.unusedSimpArgs false
theorem llp_ok : PureOk Try.prog 116 [] ((cE ePfx).enc llP) := by
  refine pure_intro (wd := 1) (Q := mkQ LE0) (by decide) tysOk (q_of LE0_ok) mixed Try.func116 rfl _ (by show 0 ≤ _; decide) _ ?_
  exact Done.mk (leF_e (leE_all (by repeat' (first | exact trivial | exact rfl | exact leC_int rfl | exact leC_bool rfl | refine leE_all ?_ | exact leC_bool (by assumption) | apply And.intro))))
theorem flag_ok (b : Bool) (v : Int) : PureOk Try.prog 83 [cB.enc b, (cI .i64).enc v] ((cI .i64).enc (bitV b v)) := by
  refine pure_intro (wd := 1) (Q := mkQ LE0) (by decide) tysOk (q_of LE0_ok) mixed Try.func83 rfl _ (by show 2 ≤ _; decide) _ ?_
  repeat' (first | (apply And.intro <;> intro hc <;> (first | exact Bool.noConfusion hc | (simp only [decide_eq_true_eq, decide_eq_false_iff_not, Bool.not_eq_true', Bool.not_eq_false', beq_iff_eq, beq_eq_false_iff_ne, bne_iff_ne, bne_eq_false_iff_eq, Bool.true_eq_false, Bool.false_eq_true] at hc) | skip)) | (refine And.intro (by first | exact trivial | decide | omega | (dsimp only; omega) | exact fun _ _ => rfl) ?_) | (apply And.intro) | (intro s hs))
  all_goals exact Done.mk (leF_int (by simp [bitV, *]))
theorem rd_ip0 (a : Fin 16 → Int) : ((eA .u8 16).rd fun q => (eA .u8 16).cell a (0 + q)) = a := rd_ip a
theorem high_ok (a : Fin 16 → Int) (ha : byteOk a) : PureOk Try.prog 118 [(cE (eA .u8 16)).enc a] ((cI .u64).enc (hiF a)) := by
  refine pure_intro (wd := 1) (Q := mkQ LAd) (by decide) tysOk (q_of LAd_ok) mixed Try.func118 rfl _ (by show 1 ≤ _; decide) _ ?_
  repeat' (first | (apply And.intro <;> intro hc <;> (first | exact Bool.noConfusion hc | (simp only [decide_eq_true_eq, decide_eq_false_iff_not, Bool.not_eq_true', Bool.not_eq_false', beq_iff_eq, beq_eq_false_iff_ne, bne_iff_ne, bne_eq_false_iff_eq, Bool.true_eq_false, Bool.false_eq_true, ne_eq, not_true_eq_false] at hc <;> first | exact absurd rfl hc | skip) | skip)) | (refine And.intro (by first | exact trivial | decide | omega | (dsimp only; omega) | exact fun _ _ => rfl | exact ⟨by assumption, by first | exact trivial | decide | omega | (dsimp only; omega)⟩) ?_) | (apply And.intro) | (intro s hs; (have q : s = splF a := hs.trans (congrArg splF (rd_ip a)); clear hs; subst q)))
  · exact Eq.mp (congrArg byteOk (rd_ip a).symm) ha
  · exact Done.mk (leF_int rfl)
def shortF (y : Int) : List Int × Bool := if bits .andNot .u64 y 65535 = 1099478073344 then (beB y 2, true) else ([], false)
def boolV (b : Bool) : EV := .c (.bool b)
theorem short_ok (y : Int) : NewOk Try.prog 121 [(cI .u64).enc y] (some (shortF y).1.length) (some [boolV (shortF y).2]) (ents eB 5 (shortF y).1) := by
  obtain ⟨w, eW⟩ : ∃ w, shortF y = w := ⟨_, rfl⟩
  rw [eW]
  refine new_intro (wd := 1) (Q := mkQ LAd) (by decide) tysOk (q_of LAd_ok) mixed Try.func121 rfl _ (by show 1 ≤ _; decide) (fun i _ j _ => row_nf eB _ i j) ?_
  repeat' (first | (apply And.intro <;> intro hc <;> (first | exact Bool.noConfusion hc | (simp only [decide_eq_true_eq, decide_eq_false_iff_not, Bool.not_eq_true', Bool.not_eq_false', beq_iff_eq, beq_eq_false_iff_ne, bne_iff_ne, bne_eq_false_iff_eq, Bool.true_eq_false, Bool.false_eq_true, ne_eq, not_true_eq_false] at hc <;> first | exact absurd rfl hc | skip) | skip)) | (refine And.intro (by first | exact trivial | decide | omega | (dsimp only; omega) | exact fun _ _ => rfl | exact ⟨by assumption, by first | exact trivial | decide | omega | (dsimp only; omega)⟩) ?_) | (apply And.intro) | (intro s hs; (have q : s = beB y 2 := hs; clear hs; subst q)))
  · have e : w = ([], false) := by rw [← eW]; unfold shortF; rw [if_neg hc]
    rw [e]
    exact ⟨⟨none, leF_tup ⟨leC_nils_os rfl, leC_bool rfl, trivial⟩, rfl, rfl, (by show 0 < 1; omega)⟩⟩
  · exact Nat.zero_le _
  · have e : w = (beB y 2, true) := by rw [← eW]; unfold shortF; rw [if_pos hc]
    rw [e]
    exact ⟨⟨some _, leF_tup ⟨leC_os rfl rfl, leC_bool rfl, trivial⟩, leN_ents⟩⟩
def withinF (p : Pfx) (y : Int) (a : Fin 16 → Int) : Bool := decide (vpf p = true ∧ p.bits ≤ 64) && ipEq (jn p.ip y) a
theorem ip_from (a b : Fin 16 → Int) : eqFrom ((eA .u8 16).cell a) ((eA .u8 16).cell b) 16 0 = ipEq a b := by
  rw [Bool.eq_iff_iff, eqFrom_iff]
  unfold ipEq
  simp only [List.all_eq_true, List.mem_range, beq_iff_eq]
  constructor
  · intro h j hj
    have := h j hj
    rw [Nat.zero_add] at this
    simpa [eA, eqCell] using this
  · intro h j hj
    rw [Nat.zero_add]
    have := h j hj
    simpa [eA, eqCell] using this
theorem within_ok (p : Pfx) (y : Int) (a : Fin 16 → Int) : PureOk Try.prog 114 [(cE ePfx).enc p, (cPv (eI .u64)).enc y, (cPv (eA .u8 16)).enc a] (cB.enc (withinF p y a)) := by
  refine pure_intro (wd := 1) (Q := mkQ LAd) (by decide) tysOk (q_of LAd_ok) mixed Try.func114 rfl _ (by show 3 ≤ _; decide) _ ?_
  repeat' (first | (apply And.intro <;> intro hc <;> (first | exact Bool.noConfusion hc | (simp only [decide_eq_true_eq, decide_eq_false_iff_not, Bool.not_eq_true', Bool.not_eq_false', beq_iff_eq, beq_eq_false_iff_ne, bne_iff_ne, bne_eq_false_iff_eq, Bool.true_eq_false, Bool.false_eq_true, ne_eq, not_true_eq_false] at hc <;> first | exact absurd rfl hc | skip) | skip)) | (refine And.intro (by first | exact trivial | decide | omega | (dsimp only; omega) | exact fun _ _ => rfl | exact ⟨by assumption, by first | exact trivial | decide | omega | (dsimp only; omega)⟩) ?_) | (apply And.intro) | (intro s hs; (have q : s = joinF p y := hs.trans (congrArg (joinF · y) (rd_pfx p)); clear hs; subst q)))
  · have e : withinF p y a = ipEq (joinF p y).1 a := by
      unfold withinF joinF at *
      split at hc
      · rename_i h
        rw [decide_eq_true h, Bool.true_and, if_pos h]
      · cases hc
    rw [e]
    exact Done.mk (leF_bool (ip_from (joinF p y).1 a))
  · have e : withinF p y a = false := by
      unfold withinF joinF at *
      split at hc
      · cases hc
      · rename_i h
        rw [decide_eq_false h, Bool.false_and]
    rw [e]
    exact Done.mk (leF_bool rfl)
end Go.Proofs.Ytjknkfjhcapocaa.AX
/- Calls that are walked through in place (closures that turn what they have captured). -/
namespace Go.Proofs.Ytjknkfjhcapocaa.AX
open Go.RowKit
set_option linter.unusedVariables false
/-- A heap's entries, each name once; the rest names of H are dead. -/
def normK : Hp → List Nat → Hp → (Hp → Prop) → Prop
  | [], _, acc, k => k acc
  | (t, v) :: l, seen, acc, k => bif memN seen t then normK l seen acc k else normK l (t :: seen) ((t, v) :: acc) k
def killH (H : Hp) : Hp := H.map fun p => (p.1, none)
theorem memN_iff {l : List Nat} {t : Nat} : memN l t = true ↔ t ∈ l := by
  constructor
  · intro h
    obtain ⟨x, hx, hb⟩ := List.any_eq_true.1 h
    rw [Nat.eq_of_beq_eq_true hb]; exact hx
  · exact memN_of
theorem hasKey_iff {α : Type} {l : List (Nat × α)} {t : Nat} : hasKey l t = true ↔ ∃ v, (t, v) ∈ l := by
  constructor
  · intro h
    obtain ⟨⟨k, v⟩, hx, hb⟩ := List.any_eq_true.1 h
    have : k = t := Nat.eq_of_beq_eq_true hb
    subst this
    exact ⟨v, hx⟩
  · rintro ⟨v, hv⟩
    exact List.any_eq_true.2 ⟨(t, v), hv, by simp⟩
/-- What normK hands on. -/
def normL : Hp → List Nat → Hp → Hp
  | [], _, acc => acc
  | (t, v) :: l, seen, acc => bif memN seen t then normL l seen acc else normL l (t :: seen) ((t, v) :: acc)
theorem normK_L : ∀ (l : Hp) (seen : List Nat) (acc : Hp) (k : Hp → Prop), normK l seen acc k = k (normL l seen acc) := by
  intro l
  induction l with
  | nil => intro seen acc k; rfl
  | cons p l ih =>
    intro seen acc k
    obtain ⟨t0, v⟩ := p
    unfold normK normL
    cases memN seen t0 with
    | true => exact ih _ _ _
    | false => exact ih _ _ _
theorem normL_eq : ∀ (l : Hp) (seen : List Nat) (acc : Hp), (∀ t, t ∈ seen ↔ hasKey acc t = true) →
    (∀ t, hasKey (normL l seen acc) t = (hasKey acc t || hasKey l t)) ∧ ∀ t, look none (normL l seen acc) t = look none (acc ++ l) t := by
  intro l
  induction l with
  | nil => intro seen acc _; exact ⟨fun t => by simp [hasKey, normL], fun t => by simp [normL]⟩
  | cons p l ih =>
    intro seen acc hs
    obtain ⟨t0, v⟩ := p
    cases hb : memN seen t0 with
    | true =>
      obtain ⟨h2, h3⟩ := ih seen acc hs
      have hk : hasKey acc t0 = true := (hs t0).1 (memN_iff.1 hb)
      have hL : normL ((t0, v) :: l) seen acc = normL l seen acc := by show (bif memN seen t0 then _ else _) = _; rw [hb]; rfl
      rw [hL]
      refine ⟨fun t => ?_, fun t => ?_⟩
      · rw [h2 t, hasKey_cons]
        by_cases ht : t0 = t
        · subst ht; rw [hk]; simp
        · have : Nat.beq t0 t = false := by
            cases h : Nat.beq t0 t with
            | false => rfl
            | true => exact absurd (Nat.eq_of_beq_eq_true h) ht
          rw [this]; simp
      · rw [h3 t, look_append, look_append]
        cases hkt : hasKey acc t with
        | true => rfl
        | false =>
          have ht : t ≠ t0 := fun h => by subst h; rw [hk] at hkt; cases hkt
          rw [cond_false, cond_false]
          exact (look_cons_ne _ _ _ ht).symm
    | false =>
      have hk : hasKey acc t0 = false := by
        cases h : hasKey acc t0 with
        | false => rfl
        | true => have := memN_iff.2 ((hs t0).2 h); rw [hb] at this; cases this
      have hL : normL ((t0, v) :: l) seen acc = normL l (t0 :: seen) ((t0, v) :: acc) := by show (bif memN seen t0 then _ else _) = _; rw [hb]; rfl
      rw [hL]
      obtain ⟨h2, h3⟩ := ih (t0 :: seen) ((t0, v) :: acc) (fun t => by
        rw [hasKey_cons, List.mem_cons, hs t, Bool.or_eq_true]
        constructor
        · rintro (rfl | h)
          · exact .inl (by simp)
          · exact .inr h
        · rintro (h | h)
          · exact .inl (Nat.eq_of_beq_eq_true h).symm
          · exact .inr h)
      refine ⟨fun t => ?_, fun t => ?_⟩
      · rw [h2 t, hasKey_cons, hasKey_cons]
        cases Nat.beq t0 t <;> cases hasKey acc t <;> rfl
      · rw [h3 t]
        show look none (((t0, v) :: acc) ++ l) t = look none (acc ++ (t0, v) :: l) t
        rw [look_append, look_append, hasKey_cons]
        by_cases ht : t = t0
        · subst ht
          rw [hk, show Nat.beq t t = true by simp, Bool.true_or, cond_true, cond_false, look_cons_eq, look_cons_eq]
        · have e1 : Nat.beq t0 t = false := by
            cases h : Nat.beq t0 t with
            | false => rfl
            | true => exact absurd (Nat.eq_of_beq_eq_true h).symm ht
          rw [e1, Bool.false_or, look_cons_ne _ _ _ ht, look_cons_ne _ _ _ ht]
/-- The end of such a call: the heap Hf, laid over H. -/
def inEnd (H Hf : Hp) (nf top : Nat) (k : Hp → Prop) : Prop := Nat.ble nf top = true ∧ normK (Hf ++ killH H) [] [] k
theorem inEnd_eq {H Hf : Hp} {nf top : Nat} {k : Hp → Prop} (h : inEnd H Hf nf top k) : nf ≤ top ∧ ∃ L, k L ∧ ∀ t, hget (L ++ H) t = hget Hf t := by
  refine ⟨Nat.le_of_ble_eq_true h.1, ?_⟩
  obtain ⟨h2, h3⟩ := normL_eq (Hf ++ killH H) [] [] (fun t => by simp [hasKey])
  refine ⟨normL (Hf ++ killH H) [] [], by have := h.2; rw [normK_L] at this; exact this, fun t => ?_⟩
  have hkill : ∀ (H : Hp) t, hasKey (killH H) t = hasKey H t := fun H t => by
    unfold hasKey killH
    rw [List.any_map]; rfl
  have hnone : ∀ (H : Hp) t, look none (killH H) t = none := by
    intro H
    induction H with
    | nil => intro t; rfl
    | cons p H ih =>
      intro t
      show (bif Nat.beq t p.1 then none else look none (killH H) t) = none
      cases Nat.beq t p.1 with
      | true => rfl
      | false => exact ih t
  show look none (normL (Hf ++ killH H) [] [] ++ H) t = look none Hf t
  rw [look_append, h2 t, h3 t]
  have e0 : hasKey ([] : Hp) t = false := rfl
  have e1 : hasKey (Hf ++ killH H) t = (hasKey Hf t || hasKey H t) := by
    unfold hasKey; rw [List.any_append]; exact congrArg (_ || ·) (hkill H t)
  rw [e0, e1, Bool.false_or, List.nil_append, look_append]
  cases h4 : hasKey Hf t with
  | true => rfl
  | false =>
    have look_no : ∀ (H : Hp), hasKey H t = false → look none H t = none := by
      intro H
      induction H with
      | nil => intro _; rfl
      | cons p H ih =>
        obtain ⟨k, v⟩ := p
        intro h
        rw [hasKey_cons] at h
        simp only [Bool.or_eq_false_iff] at h
        have : Nat.beq t k = false := by rw [beq_comm']; exact h.1
        show (bif Nat.beq t k then v else look none H t) = none
        rw [this]; exact ih h.2
    rw [cond_false, Bool.false_or, hnone, look_no Hf h4]
    cases h5 : hasKey H t with
    | true => rfl
    | false => rw [cond_false, look_no H h5]
/-- The entry: the body of f is walked through; wi: how many names an operation of it may use. -/
def inlE (T : Tys) (Q : Qs) (wi nt : Nat) (rv : List ResultVar) (c : Code) : Entry := fun args H nm wd => some fun K =>
  Nat.ble args.length nt = true ∧ exec T Q wi nt nm c (argFr args 0) H nm (endH T rv fun x Hf nf => inEnd H Hf nf (nm + wd) fun e => K x e [ALLN])
theorem endH_mono {T : Tys} {rv : List ResultVar} {p p' : FV → Hp → Nat → Prop} (h : ∀ x H n, p x H n → p' x H n) : ∀ e fr H nx, endH T rv p e fr H nx → endH T rv p' e fr H nx := by
  intro e fr H nx hp
  cases e with
  | ret =>
    simp only [endH] at hp ⊢
    split at hp
    · exact h _ _ _ hp
    · exact hp.elim
  | normal =>
    simp only [endH] at hp ⊢
    split at hp
    · exact h _ _ _ hp
    · exact hp.elim
  | exit => exact hp.elim
  | goto => exact hp.elim
  | panic => exact hp.elim
  | outgrown => exact hp.elim
theorem inlE_ok {P : Program} {T : Tys} {Q : Qs} {wi : Nat} (hwi : 0 < wi) (hT : TysOk P T) (hQ : QsOk P Q) (hM : QsMono Q) (hm : P.follows .mixedOrders = true) {f : FuncId} {fn : Func} {c : Code} (hf : P.funcs[f]? = some fn) (hb : fn.body = some c) (hnm : (fn.name == "runtime.NumGoroutine") = false) : EntOk P f (inlE T Q wi fn.ntmps fn.results.toList c) := by
  refine ⟨fun args H nm wd q hwd hq K hK => ?_, fun args H nm wd q hq K K' hKK hK => ?_⟩
  · injection hq with hq
    subst hq
    obtain ⟨hn, hK⟩ := hK
    have hn := Nat.le_of_ble_eq_true hn
    obtain ⟨⟨x, Hf, nf⟩, hend, hex⟩ := exec_some (α := FV × Hp × Nat) (post := fun a x H n => x = a.1 ∧ H = a.2.1 ∧ n = a.2.2) (S := fun a => inEnd H a.2.1 a.2.2 (nm + wd) fun e => K a.1 e [ALLN]) hwi hQ
      (exec_mono hM c _ _ (endH_mono fun x Hf nf h => ⟨(x, Hf, nf), h, rfl, rfl, rfl⟩) _ _ _ hK)
    obtain ⟨hle, L, hKL, hL⟩ := inEnd_eq hend
    refine ⟨x, L, [ALLN], ⟨⟨fn, hf, by rw [hb]; rfl, hnm⟩, fun H' hh cx r w vals st hfr hw hrel => ?_⟩, hKL⟩
    obtain ⟨w1, w2⟩ := hw (List.mem_singleton.2 rfl)
    have w1' : ∀ k, hget H' k = hget H k := fun k => (w1 k).symm
    have st := st.congr w1'
    rw [wr_congr (r := r) w1'] at hrel
    have w3 : ∀ k, nm ≤ k → r k = none ∧ hget H k = none := fun k hk => ⟨(w2 k hk).1, by rw [w1]; exact (w2 k hk).2⟩
    refine (fn_run (np := nm) (cx := ⟨w, fun b => ∃ k x, r k = some x ∧ x.b = b, wr r H, cx.X, fun k => if k < nm then r k else none⟩) hwi hT (QR_ok P) hm hf hb hn hex (fun k b hk => ?_)
      ⟨rfl, rfl, rfl, Nat.le_refl _, fun _ _ _ => rfl, fun b hb => Nat.lt_of_lt_of_le (st.xlt b hb) st.size, fun k x hk => ⟨(st.dom k x hk).1, .inr ⟨k, x, hk, rfl⟩, (st.dom k x hk).2.2⟩, fun k e x he hx => .inr ⟨k, e, x, he, hx, rfl⟩, st.inj, fun k b hk => ?_, st.blk⟩ hrel w3).mono fun e w' he => ?_
    · by_cases h : k < nm
      · exact h
      · have hk' : (if k < nm then r k else none) = some b := hk
        rw [if_neg h] at hk'; cases hk'
    · by_cases h : k < nm
      · have hk' : (if k < nm then r k else none) = some b := hk
        rw [if_pos h] at hk'; exact hk'
      · have hk' : (if k < nm then r k else none) = some b := hk
        rw [if_neg h] at hk'; cases hk'
    · obtain ⟨v, r', x', Hf', nf', rfl, ⟨e1, e2, e3⟩, st', hn', hx, hlow⟩ := he
      dsimp only at e1 e2 e3
      rw [e2] at st' hx
      rw [e1] at hx
      rw [e2, e3] at hn'
      clear e1 e2 e3
      have hG : ∀ t, hget (L ++ H') t = hget Hf t := fun t => by
        rw [← hL t]
        show look none (L ++ H') t = look none (L ++ H) t
        rw [look_append, look_append]
        cases hasKey L t with
        | true => rfl
        | false => exact w1' t
      have hle2 : ∀ k, nm + wd ≤ k → r' k = none ∧ hget Hf k = none := fun k hk => hn' k (Nat.le_trans hle hk)
      have stF : St cx r' Hf w' := by
        refine ⟨st'.os.trans st.os, st'.tape.trans st.tape, st'.output.trans st.output, Nat.le_trans st.size st'.size, fun b hb hE => ?_, st.xlt, fun k y hk => ?_, fun k e y he hy => ?_, st'.inj, fun k b hk => ?_, st'.blk⟩
        · rw [← st.kept b hb hE]
          refine st'.kept b (Nat.lt_of_lt_of_le hb st.size) ?_
          rintro ⟨k, e, y, he, hy, rfl⟩
          rcases st.ow k e y he hy with h | h
          · omega
          · exact hE h
        · obtain ⟨d1, d2, d3⟩ := st'.dom k y hk
          refine ⟨d1, ?_, d3⟩
          rcases d2 with d2 | ⟨k0, x0, d4, d5⟩
          · exact .inl (Nat.le_trans st.size d2)
          · rw [← d5]; exact (st.dom k0 x0 d4).2.1
        · rcases st'.ow k e y he hy with h | ⟨k0, e0, x0, h1, h2, h3⟩
          · exact .inl (Nat.le_trans st.size h)
          · rw [← h3]; exact st.ow k0 e0 x0 h1 h2
        · have hr := st.pin k b hk
          have : k < nm := by
            rcases Nat.lt_or_ge k nm with h | h
            · exact h
            · rw [(w3 k h).1] at hr; cases hr
          rw [hlow k this]; exact hr
      have hwr : wr r' (L ++ H') = wr r' Hf := wr_congr hG
      have hwr0 : wr r H' = wr r H := wr_congr w1'
      refine ⟨v, rfl, r', ⟨fun k b hk => ?_, st'.size, fun b hb hW => st'.kept b hb (by rw [← hwr0]; exact hW), fun b hb hW => ?_⟩, stF.congr fun t => (hG t).symm, fun k hk => ?_, fun k e hk => ?_, by rw [hwr]; exact hx⟩
      · have : k < nm := by
          rcases Nat.lt_or_ge k nm with h | h
          · exact h
          · rw [(w3 k h).1] at hk; cases hk
        rw [hlow k this]; exact hk
      · rw [hwr] at hW
        rw [hwr0]
        obtain ⟨k, e, y, he, hy, rfl⟩ := hW
        rcases st'.ow k e y he hy with h | h
        · have : w.heap.size ≤ y.b := h
          omega
        · exact h
      · rcases hk with hk | hk
        · exact hlow k hk
        · rw [(hle2 k hk).1, (w3 k (by omega)).1]
      · refine .inl ⟨.inr (List.mem_singleton.2 rfl), ?_⟩
        rcases Nat.lt_or_ge k (nm + wd) with h | h
        · exact h
        · have hk' : hget (L ++ H') k = some e := hk
          rw [hG k, (hle2 k h).2] at hk'; cases hk'
  · injection hq with hq
    subst hq
    refine ⟨hK.1, exec_mono hM c _ _ (endH_mono fun x Hf nf h => ⟨h.1, ?_⟩) _ _ _ hK.2⟩
    have h2 := h.2
    rw [normK_L] at h2 ⊢
    exact hKK _ _ _ h2
end Go.Proofs.Ytjknkfjhcapocaa.AX
/- The reference of layer 12: Time, compresses, expands, Valid, ForDecompression (by AX2). -/
namespace Go.Proofs.Ytjknkfjhcapocaa.AX
open Go.RowKit
set_option linter.unusedVariables false
set_option linter.unusedSimpArgs false
theorem rtime_ok (t : Int) : PureOk Try.prog 130 [(cI .i64).enc t] (cB.enc (vt t)) := by
  refine pure_intro (wd := 1) (Q := mkQ LE0) (by decide) tysOk (q_of LE0_ok) mixed Try.func130 rfl _ (by show 1 ≤ _; decide) _ ?_
  repeat' (first | (apply And.intro <;> intro hc <;> (first | exact Bool.noConfusion hc | (simp only [decide_eq_true_eq, decide_eq_false_iff_not, Bool.not_eq_true', Bool.not_eq_false', beq_iff_eq, beq_eq_false_iff_ne, bne_iff_ne, bne_eq_false_iff_eq, Bool.true_eq_false, Bool.false_eq_true] at hc) | skip)) | (refine And.intro (by first | exact trivial | decide | omega | (dsimp only; omega) | exact fun _ _ => rfl) ?_) | (apply And.intro) | (intro s hs))
  all_goals (refine Done.mk (leF_bool ?_); simp [vt, *])
theorem rcompr_ok (c : Ctx) (now : Int) : PureOk Try.prog 151 [(cE eCtx).enc c, (cI .i64).enc now] (cB.enc (compr c now)) := by
  refine pure_intro (wd := 1) (Q := mkQ LE0) (by decide) tysOk (q_of LE0_ok) mixed Try.func151 rfl _ (by show 2 ≤ _; decide) _ ?_
  repeat' (first | (apply And.intro <;> intro hc <;> (first | exact Bool.noConfusion hc | (simp only [decide_eq_true_eq, decide_eq_false_iff_not, Bool.not_eq_true', Bool.not_eq_false', beq_iff_eq, beq_eq_false_iff_ne, bne_iff_ne, bne_eq_false_iff_eq, Bool.true_eq_false, Bool.false_eq_true] at hc) | skip)) | (refine And.intro (by first | exact trivial | decide | omega | (dsimp only; omega) | exact fun _ _ => rfl) ?_) | (apply And.intro) | (intro s hs))
  all_goals (refine Done.mk (leF_bool ?_); simp [compr, *])
theorem rexp_ok (c : Ctx) (now : Int) : PureOk Try.prog 156 [(cE eCtx).enc c, (cI .i64).enc now] (cB.enc (decom c now)) := by
  refine pure_intro (wd := 1) (Q := mkQ LE0) (by decide) tysOk (q_of LE0_ok) mixed Try.func156 rfl _ (by show 2 ≤ _; decide) _ ?_
  repeat' (first | (apply And.intro <;> intro hc <;> (first | exact Bool.noConfusion hc | (simp only [decide_eq_true_eq, decide_eq_false_iff_not, Bool.not_eq_true', Bool.not_eq_false', beq_iff_eq, beq_eq_false_iff_ne, bne_iff_ne, bne_eq_false_iff_eq, Bool.true_eq_false, Bool.false_eq_true] at hc) | skip)) | (refine And.intro (by first | exact trivial | decide | omega | (dsimp only; omega) | exact fun _ _ => rfl) ?_) | (apply And.intro) | (intro s hs))
  all_goals (refine Done.mk (leF_bool ?_); simp [decom, *])
structure bytesL (l : List Ctx) : Prop where
  b : ∀ c ∈ l, byteOk c.ip
  n : l.length ≤ 2932031007317
theorem mem_getD {L : List Ctx} {i : Nat} (h : i < L.length) : L.getD i default ∈ L := by
  rw [List.getD_eq_getElem?_getD, List.getElem?_eq_getElem h]
  exact List.getElem_mem h
def LQ0 : CsL := (130, some (pureE (AC.cons (cI .i64) AC.nil) (fun _ => True) (fun a => vt a.1) cB.enc)) ::
  (151, some (pureE (AC.cons (cE eCtx) (AC.cons (cI .i64) AC.nil)) (fun _ => True) (fun a => compr a.1 a.2.1) cB.enc)) ::
  (156, some (pureE (AC.cons (cE eCtx) (AC.cons (cI .i64) AC.nil)) (fun _ => True) (fun a => decom a.1 a.2.1) cB.enc)) :: LR2
theorem LQ0_ok : AllOk Try.prog LQ0 := ⟨pureE_ok ⟨_, Try.func130, rfl, by kernel_rfl⟩ fun a _ => rtime_ok a.1, pureE_ok ⟨_, Try.func151, rfl, by kernel_rfl⟩ fun a _ => rcompr_ok a.1 a.2.1, pureE_ok ⟨_, Try.func156, rfl, by kernel_rfl⟩ fun a _ => rexp_ok a.1 a.2.1, LR2_ok⟩
def pv (l : List Ctx) (i : Nat) : Int := if i = 0 then -1 else (l.getD (i - 1) default).id
set_option maxHeartbeats 4000000 in
set_option maxRecDepth 20000 in
theorem rvalid_ok (l : List Ctx) (hl : bytesL l) : PureOk Try.prog 129 [(cSl eCtx eCtx_sz).enc l] (cB.enc (validT l)) := by
  have hn := hl.n
  refine pure_intro (wd := 1) (Q := mkQ LQ0) (by decide) tysOk (q_of LQ0_ok) mixed Try.func129 rfl _ (by show 1 ≤ _; decide) _ ?_
  refine loop_intro (mono_of LQ0_ok) (fun i : {i : Nat // i ≤ l.length ∧ validT l = validFrom (pv l i) (l.drop i) ∧ -1 ≤ pv l i} => (⟨[(0, one (.sl false l.length eCtx.sz (rowF eCtx l))), (3, one (.int .i64 (i.1 : Int)))], [], 5⟩ : Hd)) (fun i => l.length - i.1) (fun _ => rfl) ?_ ⟨0, by omega, rfl, by simp [pv]⟩ [] ?_
  · rintro ⟨i, hi, hv, hm⟩
    dsimp only at hi hv hm ⊢
    have w1 : IntKind.i64.wrap ((i : Int) - 1) = (i : Int) - 1 := IntWalk.i64_in _ (by omega)
    have hpv : 0 < (i : Int) → pv l i = (l.getD (IntKind.i64.wrap ((i : Int) - 1)).toNat default).id := fun h => by
      rw [w1, show ((i : Int) - 1).toNat = i - 1 by omega, pv, if_neg (by omega)]
    have hp0 : ¬ 0 < (i : Int) → pv l i = -1 := fun h => by rw [pv, if_pos (by omega)]
    have hps : pv l (i + 1) = (l.getD i default).id := by simp [pv]
    have hpr : ePfx.rd (fun j => eCtx.cell (l.getD i default) (0 + 1 + j)) = pfxOf (l.getD i default) := by simp only [Nat.zero_add]; exact pfx_of_ctx _
    repeat' (first | (apply And.intro <;> intro hc <;> (first | exact Bool.noConfusion hc | (simp only [decide_eq_true_eq, decide_eq_false_iff_not, Bool.not_eq_true', Bool.not_eq_false', beq_iff_eq, beq_eq_false_iff_ne, bne_iff_ne, bne_eq_false_iff_eq, Bool.true_eq_false, Bool.false_eq_true] at hc) | skip)) | (refine And.intro (by first | exact trivial | decide | omega | (dsimp only; omega) | exact fun _ _ => rfl) ?_) | (apply And.intro) | (intro s hs))
    all_goals first
      | (show byteOk (ePfx.rd fun j => eCtx.cell (l.getD i default) (0 + 1 + j)).ip
         rw [hpr]
         exact hl.b _ (mem_getD (by omega)))
      | (refine Done.mk (leF_bool ?_)
         symm
         rw [hv, valid_step _ (show i < l.length by omega), Bool.eq_false_iff]
         intro h
         simp only [Bool.and_eq_true, decide_eq_true_eq] at h
         obtain ⟨⟨⟨⟨h1, h2⟩, h3⟩, h4⟩, _⟩ := h
         first
           | (have q : (l.getD i default).id < 0 := by assumption
              omega)
           | (have q : 16 ≤ (l.getD i default).id := by assumption
              omega)
           | (have q := hpv (by assumption)
              have q2 : (l.getD i default).id ≤ (l.getD (IntKind.i64.wrap ((i : Int) - 1)).toNat default).id := by assumption
              omega)
           | (have q : s = false := by assumption
              have e : s = vt (l.getD i default).til := hs
              rw [e, h4] at q; cases q)
           | (have q : s = false := by assumption
              have e : s = vpf (ePfx.rd fun j => eCtx.cell (l.getD i default) (0 + 1 + j)) := hs
              rw [hpr, h3, q] at e; cases e))
      | (rename_i s1 hs1 c1
         have e1 : s1 = vpf (ePfx.rd fun j => eCtx.cell (l.getD i default) (0 + 1 + j)) := hs1
         rw [hpr] at e1
         have e2 : s = vt (l.getD i default).til := hs
         have g1 : ¬ (l.getD i default).id < 0 := by assumption
         have g2 : ¬ 16 ≤ (l.getD i default).id := by assumption
         have d1 : decide (pv l i < (l.getD i default).id) = true := decide_eq_true (by
           first
             | (have q := hp0 (by assumption)
                omega)
             | (have q := hpv (by assumption)
                have q2 : ¬ (l.getD i default).id ≤ (l.getD (IntKind.i64.wrap ((i : Int) - 1)).toNat default).id := by assumption
                omega))
         have d2 : decide ((l.getD i default).id < 16) = true := decide_eq_true (by omega)
         refine ⟨⟨i + 1, by omega, ?_, by rw [hps]; omega⟩, [], by dsimp only; omega, rfl, ?_, ?_⟩
         · rw [hv, valid_step _ (show i < l.length by omega), hps, d1, d2, ← e1, ← e2, c1, hc]; rfl
         · repeat' (first | exact trivial | exact rfl | exact leF_ptr rfl | exact leF_int rfl | exact leF_bool rfl | exact leF_cl (cl_slB _ _) | exact leF_cl (cl_slR _ _) | exact leF_cl (cl_ll _ _) | exact leF_c (leC_os rfl rfl) | refine leF_int ?_ | refine leF_bool ?_ | exact leN_varA (fun _ _ => (Elem.flat _ _ _).le) | exact leN_varA (fun _ _ => leC_top) | apply And.intro)
           refine (IntWalk.i64_in _ ?_).trans ?_
           · constructor <;> omega
           · dsimp only
             omega
         · repeat' (first | exact trivial | exact rfl | exact leF_ptr rfl | exact leF_int rfl | exact leF_bool rfl | exact leF_cl (cl_slB _ _) | exact leF_cl (cl_slR _ _) | exact leF_cl (cl_ll _ _) | exact leF_c (leC_os rfl rfl) | refine leF_int ?_ | refine leF_bool ?_ | exact leN_varA (fun _ _ => (Elem.flat _ _ _).le) | exact leN_varA (fun _ _ => leC_top) | apply And.intro))
      | (refine Done.mk (leF_bool ?_)
         have hil : i = l.length := by omega
         rw [hv, hil, List.drop_length]; rfl)
  · refine ⟨rfl, ?_, ?_⟩
    · repeat' (first | exact trivial | exact rfl | exact leF_ptr rfl | exact leF_int rfl | exact leF_bool rfl | exact leF_cl (cl_slB _ _) | exact leF_cl (cl_slR _ _) | exact leF_cl (cl_ll _ _) | exact leF_c (leC_os rfl rfl) | refine leF_int ?_ | refine leF_bool ?_ | exact leN_varA (fun _ _ => (Elem.flat _ _ _).le) | exact leN_varA (fun _ _ => leC_top) | apply And.intro)
    · repeat' (first | exact trivial | exact rfl | exact leF_ptr rfl | exact leF_int rfl | exact leF_bool rfl | exact leF_cl (cl_slB _ _) | exact leF_cl (cl_slR _ _) | exact leF_cl (cl_ll _ _) | exact leF_c (leC_os rfl rfl) | refine leF_int ?_ | refine leF_bool ?_ | exact leN_varA (fun _ _ => (Elem.flat _ _ _).le) | exact leN_varA (fun _ _ => leC_top) | apply And.intro)
def LQ1 : CsL := (129, some (pureE (AC.cons (cSl eCtx eCtx_sz) AC.nil) (fun a => bytesL a.1) (fun a => validT a.1) cB.enc)) :: LQ0
theorem LQ1_ok : AllOk Try.prog LQ1 := ⟨pureE_ok ⟨_, Try.func129, rfl, by kernel_rfl⟩ fun a h => rvalid_ok a.1 h, LQ0_ok⟩
end Go.Proofs.Ytjknkfjhcapocaa.AX
/- Layer 14 by AX2: unicast of the program. -/
namespace Go.Proofs.Ytjknkfjhcapocaa.AX
open Go.RowKit
set_option linter.unusedVariables false
set_option linter.unusedSimpArgs false
abbrev withinE : Entry := pureE (AC.cons (cE ePfx) (AC.cons (cPv (eI .u64)) (AC.cons (cPv (eA .u8 16)) AC.nil))) (fun _ => True) (fun a => withinF a.1 a.2.1 a.2.2.1) cB.enc
abbrev comE : Entry := pureE (AC.cons (cSl eCtx eCtx_sz) (AC.cons (cE (eA .u8 16)) (AC.cons (cI .i64) AC.nil))) (fun a => a.1.length ≤ 9223372036854775807) (fun a => forCom a.1 a.2.1 a.2.2.1) encCB
abbrev shortE : Entry := newE (AC.cons (cI .u64) AC.nil) (fun _ => True) (fun a => shortF a.1) (fun s => some s.1.length) (fun s => some [boolV s.2]) (fun s => ents eB 5 s.1)
def LIh0 : CsL := (116, some (pureE AC.nil (fun _ => True) (fun _ => llP) (cE ePfx).enc)) ::
  (83, some (pureE (AC.cons cB (AC.cons (cI .i64) AC.nil)) (fun _ => True) (fun a => bitV a.1 a.2.1) (cI .i64).enc)) ::
  (118, some (pureE aIp (fun a => byteOk a.1) (fun a => hiF a.1) (cI .u64).enc)) ::
  (121, some shortE) :: (114, some withinE) :: (117, some comE) :: LAd
theorem LIh0_ok : AllOk Try.prog LIh0 := ⟨pureE_ok ⟨_, Try.func116, rfl, by kernel_rfl⟩ fun _ _ => llp_ok, pureE_ok ⟨_, Try.func83, rfl, by kernel_rfl⟩ fun a _ => flag_ok a.1 a.2.1, pureE_ok ⟨_, Try.func118, rfl, by kernel_rfl⟩ fun a h => high_ok a.1 h,
  newE_ok ⟨_, Try.func121, rfl, by kernel_rfl⟩ (fun s l h x hx => by injection h with h; subst h; obtain rfl := List.mem_singleton.1 hx; exact nfE_c nf_bool) fun a _ => short_ok a.1,
  pureE_ok ⟨_, Try.func114, rfl, by kernel_rfl⟩ fun a _ => within_ok a.1 a.2.1 a.2.2.1, pureE_ok ⟨_, Try.func117, rfl, by kernel_rfl⟩ fun a h => forCom_ok a.1 a.2.1 a.2.2.1 h, LAd_ok⟩
def chE : Entry := inlE T (mkQ LAd) 1 Try.f119.ntmps Try.f119.results.toList (Try.f119.body.getD Code.ret)
theorem chE_ok : EntOk Try.prog 119 chE := inlE_ok (by decide) tysOk (q_of LAd_ok) (mono_of LAd_ok) mixed Try.func119 rfl rfl
def LIh1 : CsL := (119, some chE) :: LIh0
theorem LIh1_ok : AllOk Try.prog LIh1 := ⟨chE_ok, LIh0_ok⟩
abbrev encFm (r : Form) : FV := .e (tailR eFm eB r)
theorem zero_from (a : Fin 16 → Int) : eqFrom (fun q => (eA .u8 16).cell a (0 + q)) (zf [CV.int .u8 0, CV.int .u8 0, CV.int .u8 0, CV.int .u8 0, CV.int .u8 0, CV.int .u8 0, CV.int .u8 0, CV.int .u8 0, CV.int .u8 0, CV.int .u8 0, CV.int .u8 0, CV.int .u8 0, CV.int .u8 0, CV.int .u8 0, CV.int .u8 0, CV.int .u8 0]) 16 0 = ipEq a zeroA := by
  refine (eqFrom_congr (fun j hj => by rw [Nat.zero_add]) (fun j hj => ?_)).trans (ip_from a zeroA)
  iterate 16 (rcases j with _ | j; exact rfl)
  exact absurd hj (by omega)
theorem pfx_rd {c : Ctx} {g : Nat → CV} (h : ∀ q, g q = eCtx.cell c (1 + q)) : ePfx.rd g = pfxOf c := by rw [funext h]; exact pfx_of_ctx c
theorem within_ll {a : Fin 16 → Int} (ha : byteOk a) : withinF llP (loF a) a = decide (hiF a = 18338657682652659712) := by
  unfold withinF
  rw [decide_eq_true (show vpf llP = true ∧ llP.bits ≤ 64 from ⟨llP_v, by decide⟩), Bool.true_and, Bool.eq_iff_iff, ipEq_iff, jn_iff llP_b ha, llP_hi, decide_eq_true_eq]
  exact eq_comm
theorem within_cx {a : Fin 16 → Int} {l : List Ctx} {now : Int} (ha : byteOk a) (hl : bytesL l) : coverF a l now = ((forCom l a now).2 && withinF (pfxOf (forCom l a now).1) (loF a) a) := by
  unfold coverF
  cases h : (forCom l a now).2 with
  | false => rfl
  | true =>
    obtain ⟨h1, _, h2, _⟩ := forCom_in h
    have hv := (valid_lt h1 h2).2.2.2
    have hb := hl.b _ h2
    rw [Bool.true_and, Bool.true_and]
    unfold withinF
    rw [show (pfxOf (forCom l a now).1).bits = (forCom l a now).1.bits from rfl, hv, Bool.eq_iff_iff]
    simp only [Bool.and_eq_true, decide_eq_true_eq, ipEq_iff, true_and]
    rw [jn_iff (show byteOk (pfxOf (forCom l a now).1).ip from hb) ha]
    exact Iff.rfl
/-- The ways of unicast. -/
theorem uni_0 {a : Fin 16 → Int} {k : Adr} {source : Bool} {l : List Ctx} {now : Int} (h : source = true ∧ ipEq a zeroA = true) : uniF a k source l now = (⟨true, 0, 0⟩, []) := if_pos h
theorem uni_1 {a : Fin 16 → Int} {k : Adr} {source : Bool} {l : List Ctx} {now : Int} (h : ¬ (source = true ∧ ipEq a zeroA = true)) (h1 : hiF a = 18338657682652659712) : uniF a k source l now = (⟨false, 0, (iidsF (loF a) k).1⟩, (iidsF (loF a) k).2) := by
  unfold uniF
  rw [if_neg h, if_pos h1]
theorem uni_2 {a : Fin 16 → Int} {k : Adr} {source : Bool} {l : List Ctx} {now : Int} (h : ¬ (source = true ∧ ipEq a zeroA = true)) (h1 : hiF a ≠ 18338657682652659712) (h2 : coverF a l now = true) : uniF a k source l now = (⟨true, (forCom l a now).1.id, (iidsF (loF a) k).1⟩, (iidsF (loF a) k).2) := by
  unfold uniF
  rw [if_neg h, if_neg h1, if_pos h2]
theorem uni_3 {a : Fin 16 → Int} {k : Adr} {source : Bool} {l : List Ctx} {now : Int} (h : ¬ (source = true ∧ ipEq a zeroA = true)) (h1 : hiF a ≠ 18338657682652659712) (h2 : coverF a l now = false) : uniF a k source l now = (⟨false, 0, 0⟩, ipL a) := by
  unfold uniF
  rw [if_neg h, if_neg h1, if_neg (by rw [h2]; decide)]
theorem iids_2 {y : Int} {k : Adr} (h : iidF k ≠ (y, true)) (h2 : bits .andNot .u64 y 65535 = 1099478073344) : iidsF y k = (2, beB y 2) := by
  unfold iidsF
  rw [if_neg h, if_pos h2]
theorem iids_1 {y : Int} {k : Adr} (h : iidF k ≠ (y, true)) (h2 : ¬ bits .andNot .u64 y 65535 = 1099478073344) : iidsF y k = (1, beB y 8) := by
  unfold iidsF
  rw [if_neg h, if_neg h2]
theorem iids_2' {y : Int} {k : Adr} (h : iidF k ≠ (y, true)) (h2 : (shortF y).2 = true) : iidsF y k = (2, (shortF y).1) := by
  unfold shortF at h2 ⊢
  split at h2
  · rename_i g
    rw [if_pos g, iids_2 h g]
  · cases h2
theorem iids_1' {y : Int} {k : Adr} (h : iidF k ≠ (y, true)) (h2 : (shortF y).2 = false) : iidsF y k = (1, beB y 8) := by
  unfold shortF at h2
  split at h2
  · cases h2
  · rename_i g
    exact iids_1 h g
set_option maxHeartbeats 8000000 in
set_option maxRecDepth 20000 in
theorem uni_ok0 (a : Fin 16 → Int) (k : Adr) (source : Bool) (l : List Ctx) (now : Int) (ha : byteOk a) (hl : bytesL l) (Z : source = true ∧ ipEq a zeroA = true) : PureOk Try.prog 81 [(cE (eA .u8 16)).enc a, (cE eAdr).enc k, cB.enc source, (cSl eCtx eCtx_sz).enc l, (cI .i64).enc now] (encFm (uniF a k source l now)) := by
  rw [uni_0 Z]
  obtain ⟨Z1, Z2⟩ := Z
  have Z3 := (zero_from a).trans Z2
  refine pure_intro (wd := 64) (Q := mkQ LIh1) (by decide) tysOk (q_of LIh1_ok) mixed Try.func81 rfl _ (by show 5 ≤ _; decide) _ ?_
  repeat' (first | (apply And.intro <;> intro hc <;> (first | exact Bool.noConfusion hc | (exfalso; first | exact Bool.noConfusion (Z1.symm.trans hc) | exact Bool.noConfusion (Z3.symm.trans hc)) | (simp only [decide_eq_true_eq, decide_eq_false_iff_not, Bool.not_eq_true', Bool.not_eq_false', beq_iff_eq, beq_eq_false_iff_ne, bne_iff_ne, bne_eq_false_iff_eq, Bool.true_eq_false, Bool.false_eq_true, ne_eq, not_true_eq_false] at hc <;> first | exact absurd rfl hc | (exfalso; first | exact Bool.noConfusion (Z1.symm.trans hc) | exact Bool.noConfusion (Z3.symm.trans hc)) | skip) | skip)) | (refine And.intro (by first | exact trivial | decide | omega | (dsimp only; omega) | exact fun _ _ => rfl | exact ⟨by assumption, by first | exact trivial | decide | omega | (dsimp only; omega)⟩) ?_) | (apply And.intro) | (intro s hs; skip))
  refine Done.mk (leF_e (leE_tail rfl (fun j hj => ?_) (leC_nils_sl rfl)))
  iterate 3 (rcases j with _ | j; (first | exact leC_int rfl | exact leC_bool rfl))
  exact absurd hj (by show ¬ _ < 3; omega)
set_option maxHeartbeats 8000000 in
set_option maxRecDepth 20000 in
theorem uni_ok1 (a : Fin 16 → Int) (k : Adr) (source : Bool) (l : List Ctx) (now : Int) (ha : byteOk a) (hl : bytesL l) (Z : ¬ (source = true ∧ ipEq a zeroA = true)) : PureOk Try.prog 81 [(cE (eA .u8 16)).enc a, (cE eAdr).enc k, cB.enc source, (cSl eCtx eCtx_sz).enc l, (cI .i64).enc now] (encFm (uniF a k source l now)) := by
  have u1 := fun h => uni_1 (k := k) (l := l) (now := now) Z h
  have u2 := fun h g => uni_2 (k := k) (l := l) (now := now) Z h g
  have u3 := fun h g => uni_3 (k := k) (l := l) (now := now) Z h g
  have hB := within_ll ha
  have hK := within_cx (now := now) ha hl
  have i3 := fun h => iids_own (k := k) (y := loF a) h
  have i2 := fun h g => iids_2' (k := k) (y := loF a) h g
  have i1 := fun h g => iids_1' (k := k) (y := loF a) h g
  have hL := beB_hi ha
  have eS : splF a = (hiF a, loF a) := rfl
  have Z3 := zero_from a
  obtain ⟨W, eW⟩ : ∃ W, uniF a k source l now = W := ⟨_, rfl⟩
  rw [eW] at u1 u2 u3 ⊢
  obtain ⟨C, eC⟩ : ∃ C, forCom l a now = C := ⟨_, rfl⟩
  obtain ⟨Hi, eHi⟩ : ∃ x, hiF a = x := ⟨_, rfl⟩
  obtain ⟨Lo, eLo⟩ : ∃ x, loF a = x := ⟨_, rfl⟩
  obtain ⟨I, eI⟩ : ∃ x, iidF k = x := ⟨_, rfl⟩
  obtain ⟨V, eV⟩ : ∃ x, coverF a l now = x := ⟨_, rfl⟩
  obtain ⟨D, eD⟩ : ∃ x, iidsF (loF a) k = x := ⟨_, rfl⟩
  rw [eLo] at eD
  rw [eC, eLo, eV] at hK
  rw [eHi, eLo] at hB
  rw [eHi, eLo] at hL eS
  rw [eHi, eLo, eD] at u1
  rw [eHi, eLo, eD, eV, eC] at u2
  rw [eHi, eV] at u3
  rw [eI, eLo, eD] at i1 i2 i3
  obtain ⟨Sh, eSh⟩ : ∃ x, shortF Lo = x := ⟨_, rfl⟩
  rw [eSh] at i1 i2
  obtain ⟨B, eB'⟩ : ∃ x, withinF llP Lo a = x := ⟨_, rfl⟩
  obtain ⟨K, eK⟩ : ∃ x, withinF (pfxOf C.1) Lo a = x := ⟨_, rfl⟩
  rw [eB'] at hB
  rw [eK] at hK
  clear eW eV eD
  have g1 : True := trivial
  have g2 : True := trivial
  refine pure_intro (wd := 64) (Q := mkQ LIh1) (by decide) tysOk (q_of LIh1_ok) mixed Try.func81 rfl _ (by show 5 ≤ _; decide) _ ?_
  repeat' (first | (apply And.intro <;> intro hc <;> (first | exact Bool.noConfusion hc | (exfalso; first | exact Z ⟨(by assumption), (Z3.symm.trans hc)⟩ | exact Bool.noConfusion ((by assumption : B = true).symm.trans hc) | exact Bool.noConfusion ((by assumption : B = false).symm.trans hc)) | (simp only [decide_eq_true_eq, decide_eq_false_iff_not, Bool.not_eq_true', Bool.not_eq_false', beq_iff_eq, beq_eq_false_iff_ne, bne_iff_ne, bne_eq_false_iff_eq, Bool.true_eq_false, Bool.false_eq_true, ne_eq, not_true_eq_false] at hc <;> first | exact absurd rfl hc | (exfalso; first | exact Z ⟨(by assumption), (Z3.symm.trans hc)⟩ | exact Bool.noConfusion ((by assumption : B = true).symm.trans hc) | exact Bool.noConfusion ((by assumption : B = false).symm.trans hc)) | skip) | skip)) | (refine And.intro (by first | exact trivial | decide | omega | (dsimp only; omega) | exact fun _ _ => rfl | exact ⟨by assumption, by first | exact trivial | decide | omega | (dsimp only; omega)⟩) ?_) | (apply And.intro) | (intro s hs; (first | (have q : (Hi, Lo) = s := (hs.trans ((congrArg splF (rd_ip a)).trans eS)).symm; clear hs; subst q) | (have q : s = llP := hs; clear hs; subst q) | (clear g1; have q : B = s := (hs.trans ((congr (congrArg (fun p b => withinF p Lo b) (rd_pfx llP)) (eA_rd (k := .u8) a)).trans eB')).symm; clear hs; subst q) | (clear g2; have q : C = s := (hs.trans ((congr (congrArg (fun l b => forCom l b now) (toL_ctx l)) (rd_ip a)).trans eC)).symm; clear hs; subst q) | (have q : K = s := (hs.trans ((congr (congrArg (fun p b => withinF p Lo b) (pfx_rd (c := C.1) (fun q => congrArg (eCtx.cell C.1) (by omega)))) (eA_rd (k := .u8) a)).trans eK)).symm; clear hs; subst q) | (have q : Hi = s := (hs.trans ((congrArg hiF (rd_ip a)).trans eHi)).symm; clear hs; subst q) | (have q : s = beB Hi 8 := hs; clear hs; subst q) | (have q : s = beB Hi 8 ++ beB Lo 8 := hs.trans (congrArg (· ++ beB Lo 8) (toL_b0 (beB Hi 8))); clear hs; subst q) | (have q : I = s := (hs.trans ((congrArg iidF (rd_adr k)).trans eI)).symm; clear hs; subst q) | (have q : Sh = s := (hs.trans eSh).symm; clear hs; subst q) | (have q : s = beB Lo 8 := hs; clear hs; subst q) | skip)))
  all_goals first
    | exact rfl
    | exact absurd ((by assumption : B = true).symm.trans (by assumption : B = false)) (by decide)
    | exact Eq.mp (congrArg byteOk (rd_ip a).symm) ha
    | (show (toL eCtx l.length _).length ≤ _; rw [toL_len]; have := hl.n; omega)
    | exact Nat.zero_le _
    | (show (toL eB (beB Hi 8).length _).length ≤ _; rw [toL_len]; have := beB_len Hi 8; omega)
    | (have w := u3 (of_decide_eq_false (hB.symm.trans (by assumption))) (hK.trans (by rw [show C.2 = false by assumption, Bool.false_and]))
       rw [w, ← hL]
       refine Done.mk (leF_e (leE_tail rfl (fun j hj => ?_) (by first | exact leC_nils_sl rfl | exact leC_row_fin rfl rfl)))
       iterate 3 (rcases j with _ | j; (first | exact leC_int rfl | exact leC_bool rfl))
       exact absurd hj (by show ¬ _ < 3; omega))
    | (have w := u3 (of_decide_eq_false (hB.symm.trans (by assumption))) (hK.trans (by rw [show K = false by assumption, Bool.and_false]))
       rw [w, ← hL]
       refine Done.mk (leF_e (leE_tail rfl (fun j hj => ?_) (by first | exact leC_nils_sl rfl | exact leC_row_fin rfl rfl)))
       iterate 3 (rcases j with _ | j; (first | exact leC_int rfl | exact leC_bool rfl))
       exact absurd hj (by show ¬ _ < 3; omega))
    | (have d := i3 (Prod.ext (by assumption : I.1 = Lo) (by assumption : I.2 = true))
       have w := u1 (of_decide_eq_true (hB.symm.trans (by assumption)))
       rw [w, d]
       refine Done.mk (leF_e (leE_tail rfl (fun j hj => ?_) (by first | exact leC_nils_sl rfl | exact leC_row_fin rfl rfl)))
       iterate 3 (rcases j with _ | j; (first | exact leC_int rfl | exact leC_bool rfl))
       exact absurd hj (by show ¬ _ < 3; omega))
    | (have d := i3 (Prod.ext (by assumption : I.1 = Lo) (by assumption : I.2 = true))
       have w := u2 (of_decide_eq_false (hB.symm.trans (by assumption))) (hK.trans (by rw [show C.2 = true by assumption, show K = true by assumption]; rfl))
       rw [w, d]
       refine Done.mk (leF_e (leE_tail rfl (fun j hj => ?_) (by first | exact leC_nils_sl rfl | exact leC_row_fin rfl rfl)))
       iterate 3 (rcases j with _ | j; (first | exact leC_int rfl | exact leC_bool rfl))
       exact absurd hj (by show ¬ _ < 3; omega))
    | (have d := i2 (fun h => Bool.noConfusion ((congrArg Prod.snd h).symm.trans (by assumption : I.2 = false))) (by assumption)
       have w := u1 (of_decide_eq_true (hB.symm.trans (by assumption)))
       rw [w, d]
       refine Done.mk (leF_e (leE_tail rfl (fun j hj => ?_) (by first | exact leC_nils_sl rfl | exact leC_row_fin rfl rfl)))
       iterate 3 (rcases j with _ | j; (first | exact leC_int rfl | exact leC_bool rfl))
       exact absurd hj (by show ¬ _ < 3; omega))
    | (have d := i2 (fun h => Bool.noConfusion ((congrArg Prod.snd h).symm.trans (by assumption : I.2 = false))) (by assumption)
       have w := u2 (of_decide_eq_false (hB.symm.trans (by assumption))) (hK.trans (by rw [show C.2 = true by assumption, show K = true by assumption]; rfl))
       rw [w, d]
       refine Done.mk (leF_e (leE_tail rfl (fun j hj => ?_) (by first | exact leC_nils_sl rfl | exact leC_row_fin rfl rfl)))
       iterate 3 (rcases j with _ | j; (first | exact leC_int rfl | exact leC_bool rfl))
       exact absurd hj (by show ¬ _ < 3; omega))
    | (have d := i2 (fun h => (by assumption : ¬ I.1 = Lo) (congrArg Prod.fst h)) (by assumption)
       have w := u1 (of_decide_eq_true (hB.symm.trans (by assumption)))
       rw [w, d]
       refine Done.mk (leF_e (leE_tail rfl (fun j hj => ?_) (by first | exact leC_nils_sl rfl | exact leC_row_fin rfl rfl)))
       iterate 3 (rcases j with _ | j; (first | exact leC_int rfl | exact leC_bool rfl))
       exact absurd hj (by show ¬ _ < 3; omega))
    | (have d := i2 (fun h => (by assumption : ¬ I.1 = Lo) (congrArg Prod.fst h)) (by assumption)
       have w := u2 (of_decide_eq_false (hB.symm.trans (by assumption))) (hK.trans (by rw [show C.2 = true by assumption, show K = true by assumption]; rfl))
       rw [w, d]
       refine Done.mk (leF_e (leE_tail rfl (fun j hj => ?_) (by first | exact leC_nils_sl rfl | exact leC_row_fin rfl rfl)))
       iterate 3 (rcases j with _ | j; (first | exact leC_int rfl | exact leC_bool rfl))
       exact absurd hj (by show ¬ _ < 3; omega))
    | (have d := i1 (fun h => Bool.noConfusion ((congrArg Prod.snd h).symm.trans (by assumption : I.2 = false))) (by assumption)
       have w := u1 (of_decide_eq_true (hB.symm.trans (by assumption)))
       rw [w, d]
       refine Done.mk (leF_e (leE_tail rfl (fun j hj => ?_) (by first | exact leC_nils_sl rfl | exact leC_row_fin rfl rfl)))
       iterate 3 (rcases j with _ | j; (first | exact leC_int rfl | exact leC_bool rfl))
       exact absurd hj (by show ¬ _ < 3; omega))
    | (have d := i1 (fun h => Bool.noConfusion ((congrArg Prod.snd h).symm.trans (by assumption : I.2 = false))) (by assumption)
       have w := u2 (of_decide_eq_false (hB.symm.trans (by assumption))) (hK.trans (by rw [show C.2 = true by assumption, show K = true by assumption]; rfl))
       rw [w, d]
       refine Done.mk (leF_e (leE_tail rfl (fun j hj => ?_) (by first | exact leC_nils_sl rfl | exact leC_row_fin rfl rfl)))
       iterate 3 (rcases j with _ | j; (first | exact leC_int rfl | exact leC_bool rfl))
       exact absurd hj (by show ¬ _ < 3; omega))
    | (have d := i1 (fun h => (by assumption : ¬ I.1 = Lo) (congrArg Prod.fst h)) (by assumption)
       have w := u1 (of_decide_eq_true (hB.symm.trans (by assumption)))
       rw [w, d]
       refine Done.mk (leF_e (leE_tail rfl (fun j hj => ?_) (by first | exact leC_nils_sl rfl | exact leC_row_fin rfl rfl)))
       iterate 3 (rcases j with _ | j; (first | exact leC_int rfl | exact leC_bool rfl))
       exact absurd hj (by show ¬ _ < 3; omega))
    | (have d := i1 (fun h => (by assumption : ¬ I.1 = Lo) (congrArg Prod.fst h)) (by assumption)
       have w := u2 (of_decide_eq_false (hB.symm.trans (by assumption))) (hK.trans (by rw [show C.2 = true by assumption, show K = true by assumption]; rfl))
       rw [w, d]
       refine Done.mk (leF_e (leE_tail rfl (fun j hj => ?_) (by first | exact leC_nils_sl rfl | exact leC_row_fin rfl rfl)))
       iterate 3 (rcases j with _ | j; (first | exact leC_int rfl | exact leC_bool rfl))
       exact absurd hj (by show ¬ _ < 3; omega))
    | skip
end Go.Proofs.Ytjknkfjhcapocaa.AX
/- Layer 14 by AX2: group, fields, check of the program. -/
namespace Go.Proofs.Ytjknkfjhcapocaa.AX
open Go.RowKit
set_option linter.unusedVariables false
set_option linter.unusedSimpArgs false
theorem zr_at {a : Fin 16 → Int} {i j : Nat} (h : zr a i j = true) : ∀ k, i ≤ k → k < j → k < 16 → vget a k = 0 := by
  intro k h1 h2 h3
  unfold zr at h
  rw [List.all_eq_true] at h
  have := h (vget a k) (by
    rw [List.mem_iff_getElem?]
    refine ⟨k - i, ?_⟩
    rw [List.getElem?_take, if_pos (by omega), List.getElem?_drop, show i + (k - i) = k by omega]
    unfold ipL
    rw [List.getElem?_map, List.getElem?_range h3]; rfl)
  exact of_decide_eq_true this
theorem zr_of {a : Fin 16 → Int} {i j : Nat} (h : ∀ k, i ≤ k → k < j → k < 16 → vget a k = 0) : zr a i j = true := by
  unfold zr
  rw [List.all_eq_true]
  intro x hx
  obtain ⟨q, hq⟩ := List.mem_iff_getElem?.1 hx
  rw [List.getElem?_take] at hq
  split at hq
  · rename_i hlt
    rw [List.getElem?_drop] at hq
    have hl : i + q < 16 := by
      have := (List.getElem?_eq_some_iff.1 hq).1
      rw [ipL_len] at this; exact this
    unfold ipL at hq
    rw [List.getElem?_map, List.getElem?_range hl] at hq
    injection hq with hq
    rw [← hq]
    exact decide_eq_true (h (i + q) (by omega) (by omega) hl)
  · cases hq
theorem zr_no {a : Fin 16 → Int} {i j k : Nat} (h1 : i ≤ k) (h2 : k < j) (h3 : k < 16) (h : vget a k ≠ 0) : zr a i j = false := by
  cases hz : zr a i j with
  | false => rfl
  | true => exact absurd (zr_at hz k h1 h2 h3) h
abbrev encFmG (r : Form) : FV := .e (tailR eFm eB r)
def LIh00 : CsL := (83, some (pureE (AC.cons cB (AC.cons (cI .i64) AC.nil)) (fun _ => True) (fun a => bitV a.1 a.2.1) (cI .i64).enc)) :: LAd
theorem LIh00_ok : AllOk Try.prog LIh00 := ⟨pureE_ok ⟨_, Try.func83, rfl, by kernel_rfl⟩ fun a _ => flag_ok a.1 a.2.1, LAd_ok⟩
structure ZrS (z : List Int) where
  k : Nat
  hk : k ≤ z.length
  h : ∀ q, q < k → z.getD q default = 0
theorem all_zero {z : List Int} (h : ∀ q, q < z.length → z.getD q default = 0) : z.all (fun x => x == 0) = true := by
  rw [List.all_eq_true]
  intro x hx
  obtain ⟨q, hq, rfl⟩ := List.mem_iff_getElem.1 hx
  have := h q hq
  rw [List.getD_eq_getElem?_getD, List.getElem?_eq_getElem hq] at this
  exact decide_eq_true this
theorem not_zero {z : List Int} {q : Nat} (hq : q < z.length) (h : z.getD q default ≠ 0) : z.all (fun x => x == 0) = false := by
  cases hz : z.all (fun x => x == 0) with
  | false => rfl
  | true =>
    rw [List.all_eq_true] at hz
    have := hz z[q] (List.getElem_mem hq)
    rw [List.getD_eq_getElem?_getD, List.getElem?_eq_getElem hq] at h
    exact absurd (of_decide_eq_true this) h
set_option maxRecDepth 20000 in
theorem zero_ok (a : Fin 16 → Int) (i j : Nat) (hij : i ≤ j ∧ j ≤ 16) : PureOk Try.prog 122 [(cI .i64).enc (i : Int), (cI .i64).enc (j : Int), (cPv (eA .u8 16)).enc a] (cB.enc (zr a i j)) := by
  obtain ⟨z, hz⟩ : ∃ z, z = ((ipL a).drop i).take (j - i) := ⟨_, rfl⟩
  have hzl : z.length = j - i := by rw [hz, List.length_take, List.length_drop, ipL_len]; omega
  have hw : zr a i j = z.all (fun x => x == 0) := by rw [hz]; rfl
  rw [hw]
  obtain ⟨w, eW⟩ : ∃ w, z.all (fun x => x == 0) = w := ⟨_, rfl⟩
  rw [eW]
  refine pure_intro (wd := 1) (Q := mkQ LE0) (by decide) tysOk (q_of LE0_ok) mixed Try.func122 rfl _ (by show 3 ≤ _; decide) _ ?_
  repeat' (first | (apply And.intro <;> intro hc <;> (first | exact Bool.noConfusion hc | (simp only [decide_eq_true_eq, decide_eq_false_iff_not, Bool.not_eq_true', Bool.not_eq_false', beq_iff_eq, beq_eq_false_iff_ne, bne_iff_ne, bne_eq_false_iff_eq, Bool.true_eq_false, Bool.false_eq_true] at hc) | skip)) | (refine And.intro (by first | exact trivial | decide | omega | (dsimp only; omega) | exact fun _ _ => rfl) ?_) | (apply And.intro) | (intro s hs))
  · exact Nat.le_refl 16
  refine loop_intro (mono_of LE0_ok) (fun s : ZrS z => (⟨[(10, one (.sl false z.length eB.sz (rowF eB z))), (11, one (.int .i64 (z.length : Int))), (12, one (.int .i64 (s.k : Int)))], [], 0⟩ : Hd)) (fun s => z.length - s.k) (fun _ => rfl) ?_ ⟨0, by omega, fun q h => absurd h (by omega)⟩ [] ?_
  · rintro ⟨k, hk, h⟩
    dsimp only at hk h ⊢
    repeat' (first | (apply And.intro <;> intro hc <;> (first | exact Bool.noConfusion hc | (simp only [decide_eq_true_eq, decide_eq_false_iff_not, Bool.not_eq_true', Bool.not_eq_false', beq_iff_eq, beq_eq_false_iff_ne, bne_iff_ne, bne_eq_false_iff_eq, Bool.true_eq_false, Bool.false_eq_true] at hc) | skip)) | (refine And.intro (by first | exact trivial | decide | omega | (dsimp only; omega) | exact fun _ _ => rfl) ?_) | (apply And.intro) | (intro s hs))
    · have e : w = false := by rw [← eW]; exact not_zero (q := k) (by omega) hc
      rw [e]
      exact Done.mk (leF_bool rfl)
    · refine ⟨⟨k + 1, by omega, fun q hq => ?_⟩, [], by dsimp only <;> omega, rfl, ?_, ?_⟩
      · by_cases e : q = k
        · rw [e]; exact hc
        · exact h q (by omega)
      · repeat' (first | exact trivial | exact rfl | exact leF_ptr rfl | exact leF_int rfl | exact leF_bool rfl | exact leF_cl (cl_slB _ _) | exact leF_cl (cl_slR _ _) | exact leF_cl (cl_ll _ _) | exact leF_c (leC_os rfl rfl) | refine leF_int ?_ | refine leF_bool ?_ | exact leN_varA (fun _ _ => (Elem.flat _ _ _).le) | exact leN_varA (fun _ _ => leC_top) | apply And.intro)
        first | (dsimp only; rw [IntWalk.i64_in _ (by omega)]; omega) | (dsimp only; rw [IntWalk.i64_in _ (by omega)]; done) | (dsimp only; exact IntWalk.i64_in _ (by omega)) | exact IntWalk.i64_in _ (by omega) | (rw [IntWalk.i64_in _ (by omega)]; omega)
      · repeat' (first | exact trivial | exact rfl | exact leF_ptr rfl | exact leF_int rfl | exact leF_bool rfl | exact leF_cl (cl_slB _ _) | exact leF_cl (cl_slR _ _) | exact leF_cl (cl_ll _ _) | exact leF_c (leC_os rfl rfl) | refine leF_int ?_ | refine leF_bool ?_ | exact leN_varA (fun _ _ => (Elem.flat _ _ _).le) | exact leN_varA (fun _ _ => leC_top) | apply And.intro)
    · have e : w = true := by rw [← eW]; exact all_zero fun q hq => h q (by omega)
      rw [e]
      exact Done.mk (leF_bool rfl)
  · refine ⟨rfl, ?_, ?_⟩
    · repeat' (first | exact trivial | exact rfl | exact leF_ptr rfl | exact leF_int rfl | exact leF_bool rfl | exact leF_cl (cl_slB _ _) | exact leF_cl (cl_slR _ _) | exact leF_cl (cl_ll _ _) | exact leF_c (leC_os rfl rfl) | refine leF_int ?_ | refine leF_bool ?_ | exact leN_varA (fun _ _ => (Elem.flat _ _ _).le) | exact leN_varA (fun _ _ => leC_top) | apply And.intro)
      · refine leF_c (leC_sl (fun h => by cases h) ?_ rfl fun q hq c hc => ?_)
        · show (j : Int).toNat - (i : Int).toNat = z.length; omega
        · obtain rfl : c = 0 := by omega
          refine leC_int ?_
          show vget a _ = z.getD q default
          have hq' : q < z.length := by omega
          rw [hz, getD_dt _ _ _ _ (by omega) (by rw [ipL_len]; omega), ipL_get a (by omega)]
          exact congrArg (vget a) (by omega)
      · show (((j : Int).toNat - (i : Int).toNat : Nat) : Int) = z.length
        omega
    · repeat' (first | exact trivial | exact rfl | exact leF_ptr rfl | exact leF_int rfl | exact leF_bool rfl | exact leF_cl (cl_slB _ _) | exact leF_cl (cl_slR _ _) | exact leF_cl (cl_ll _ _) | exact leF_c (leC_os rfl rfl) | refine leF_int ?_ | refine leF_bool ?_ | exact leN_varA (fun _ _ => (Elem.flat _ _ _).le) | exact leN_varA (fun _ _ => leC_top) | apply And.intro)
abbrev zeroE : Entry := pureE (AC.cons (cI .i64) (AC.cons (cI .i64) (AC.cons (cPv (eA .u8 16)) AC.nil))) (fun a => 0 ≤ a.1 ∧ a.1 ≤ a.2.1 ∧ a.2.1 ≤ 16) (fun a => zr a.2.2.1 a.1.toNat a.2.1.toNat) cB.enc
theorem zero_okI (a : Fin 16 → Int) (i j : Int) (h : 0 ≤ i ∧ i ≤ j ∧ j ≤ 16) : PureOk Try.prog 122 [(cI .i64).enc i, (cI .i64).enc j, (cPv (eA .u8 16)).enc a] (cB.enc (zr a i.toNat j.toNat)) := by
  obtain ⟨m, rfl⟩ : ∃ m : Nat, i = m := ⟨i.toNat, by omega⟩
  obtain ⟨n, rfl⟩ : ∃ n : Nat, j = n := ⟨j.toNat, by omega⟩
  exact zero_ok a m n (by omega)
def LIh2 : CsL := (122, some zeroE) :: LIh00
theorem LIh2_ok : AllOk Try.prog LIh2 := ⟨pureE_ok ⟨_, Try.func122, rfl, by kernel_rfl⟩ fun a h => zero_okI a.2.2.1 a.1 a.2.1 h, LIh00_ok⟩
set_option maxHeartbeats 8000000 in
set_option maxRecDepth 20000 in
theorem grp_ok (a : Fin 16 → Int) : PureOk Try.prog 82 [(cE (eA .u8 16)).enc a] (encFmG (grpF a)) := by
  obtain ⟨z15, e15⟩ : ∃ x, zr a 2 15 = x := ⟨_, rfl⟩
  obtain ⟨z13, e13⟩ : ∃ x, zr a 2 13 = x := ⟨_, rfl⟩
  obtain ⟨z11, e11⟩ : ∃ x, zr a 2 11 = x := ⟨_, rfl⟩
  obtain ⟨W, eW⟩ : ∃ W, grpF a = W := ⟨_, rfl⟩
  rw [eW]
  unfold grpF at eW
  rw [e15, e13, e11] at eW
  have k1 : vget a (0 + Int.toNat 1 * 1 + 0) = 2 → z15 = true → W = (⟨false, 0, 3⟩, [vget a 15]) := fun h g => by rw [← eW]; exact if_pos ⟨h, g⟩
  have k0 : (¬ vget a (0 + Int.toNat 1 * 1 + 0) = 2 ∨ z15 = false) → ¬ (vget a 1 = 2 ∧ z15 = true) := fun h g => h.elim (fun h => h g.1) (fun h => Bool.noConfusion (h.symm.trans g.2))
  have k2 : (¬ vget a (0 + Int.toNat 1 * 1 + 0) = 2 ∨ z15 = false) → z13 = true → W = (⟨false, 0, 2⟩, [vget a 1, vget a 13, vget a 14, vget a 15]) := fun h g => by rw [← eW, if_neg (k0 h), if_pos g]
  have k3 : (¬ vget a (0 + Int.toNat 1 * 1 + 0) = 2 ∨ z15 = false) → z13 = false → z11 = true → W = (⟨false, 0, 1⟩, [vget a 1, vget a 11, vget a 12, vget a 13, vget a 14, vget a 15]) := fun h g g' => by rw [← eW, if_neg (k0 h), if_neg (fun f => Bool.noConfusion (g.symm.trans f)), if_pos g']
  have k4 : (¬ vget a (0 + Int.toNat 1 * 1 + 0) = 2 ∨ z15 = false) → z13 = false → z11 = false → W = (⟨false, 0, 0⟩, ipL a) := fun h g g' => by rw [← eW, if_neg (k0 h), if_neg (fun f => Bool.noConfusion (g.symm.trans f)), if_neg (fun f => Bool.noConfusion (g'.symm.trans f))]
  clear eW k0
  refine pure_intro (wd := 1) (Q := mkQ LIh2) (by decide) tysOk (q_of LIh2_ok) mixed Try.func82 rfl _ (by show 1 ≤ _; decide) _ ?_
  repeat' (first | (apply And.intro <;> intro hc <;> (first | exact Bool.noConfusion hc | (simp only [decide_eq_true_eq, decide_eq_false_iff_not, Bool.not_eq_true', Bool.not_eq_false', beq_iff_eq, beq_eq_false_iff_ne, bne_iff_ne, bne_eq_false_iff_eq, Bool.true_eq_false, Bool.false_eq_true, ne_eq, not_true_eq_false] at hc <;> first | exact absurd rfl hc | skip) | skip)) | (refine And.intro (by first | exact trivial | decide | omega | (dsimp only; omega) | exact fun _ _ => rfl | exact ⟨by assumption, by first | exact trivial | decide | omega | (dsimp only; omega)⟩) ?_) | (apply And.intro) | (intro s hs; (first | (have q : z15 = s := (hs.trans ((congrArg (fun b => zr b 2 15) (eA_rd (k := .u8) a)).trans e15)).symm; clear hs; subst q) | (have q : z13 = s := (hs.trans ((congrArg (fun b => zr b 2 13) (eA_rd (k := .u8) a)).trans e13)).symm; clear hs; subst q) | (have q : z11 = s := (hs.trans ((congrArg (fun b => zr b 2 11) (eA_rd (k := .u8) a)).trans e11)).symm; clear hs; subst q))))
  all_goals first
    | (rw [k1 (by assumption) (by assumption)]
       refine Done.mk (leF_e (leE_tail rfl (fun j hj => ?_) (leC_os_is (l := [vget a 15]) rfl rfl rfl rfl (Nat.le_of_eq rfl) ⟨fun k hk => ?_⟩)))
       · iterate 3 (rcases j with _ | j; (first | exact leC_int rfl | exact leC_bool rfl))
         exact absurd hj (by show ¬ _ < 3; omega)
       · iterate 1 (rcases k with _ | k; exact rfl)
         exact absurd hk (by show ¬ _ < 1; omega))
    | (rw [k2 (.inl (by assumption)) (by assumption)]
       refine Done.mk (leF_e (leE_tail rfl (fun j hj => ?_) (leC_os_is (l := [vget a 1, vget a 13, vget a 14, vget a 15]) rfl rfl rfl rfl (Nat.le_of_eq rfl) ⟨fun k hk => ?_⟩)))
       · iterate 3 (rcases j with _ | j; (first | exact leC_int rfl | exact leC_bool rfl))
         exact absurd hj (by show ¬ _ < 3; omega)
       · iterate 4 (rcases k with _ | k; exact rfl)
         exact absurd hk (by show ¬ _ < 4; omega))
    | (rw [k3 (.inl (by assumption)) (by assumption) (by assumption)]
       refine Done.mk (leF_e (leE_tail rfl (fun j hj => ?_) (leC_os_is (l := [vget a 1, vget a 11, vget a 12, vget a 13, vget a 14, vget a 15]) rfl rfl rfl rfl (Nat.le_of_eq rfl) ⟨fun k hk => ?_⟩)))
       · iterate 3 (rcases j with _ | j; (first | exact leC_int rfl | exact leC_bool rfl))
         exact absurd hj (by show ¬ _ < 3; omega)
       · iterate 6 (rcases k with _ | k; exact rfl)
         exact absurd hk (by show ¬ _ < 6; omega))
    | (rw [k4 (.inl (by assumption)) (by assumption) (by assumption)]
       refine Done.mk (leF_e (leE_tail rfl (fun j hj => ?_) (leC_os_is (l := ipL a) rfl rfl rfl rfl (Nat.le_of_eq rfl) ⟨fun k hk => ?_⟩)))
       · iterate 3 (rcases j with _ | j; (first | exact leC_int rfl | exact leC_bool rfl))
         exact absurd hj (by show ¬ _ < 3; omega)
       · iterate 16 (rcases k with _ | k; exact rfl)
         exact absurd hk (by show ¬ _ < 16; omega))
    | (rw [k2 (.inr (by assumption)) (by assumption)]
       refine Done.mk (leF_e (leE_tail rfl (fun j hj => ?_) (leC_os_is (l := [vget a 1, vget a 13, vget a 14, vget a 15]) rfl rfl rfl rfl (Nat.le_of_eq rfl) ⟨fun k hk => ?_⟩)))
       · iterate 3 (rcases j with _ | j; (first | exact leC_int rfl | exact leC_bool rfl))
         exact absurd hj (by show ¬ _ < 3; omega)
       · iterate 4 (rcases k with _ | k; exact rfl)
         exact absurd hk (by show ¬ _ < 4; omega))
    | (rw [k3 (.inr (by assumption)) (by assumption) (by assumption)]
       refine Done.mk (leF_e (leE_tail rfl (fun j hj => ?_) (leC_os_is (l := [vget a 1, vget a 11, vget a 12, vget a 13, vget a 14, vget a 15]) rfl rfl rfl rfl (Nat.le_of_eq rfl) ⟨fun k hk => ?_⟩)))
       · iterate 3 (rcases j with _ | j; (first | exact leC_int rfl | exact leC_bool rfl))
         exact absurd hj (by show ¬ _ < 3; omega)
       · iterate 6 (rcases k with _ | k; exact rfl)
         exact absurd hk (by show ¬ _ < 6; omega))
    | (rw [k4 (.inr (by assumption)) (by assumption) (by assumption)]
       refine Done.mk (leF_e (leE_tail rfl (fun j hj => ?_) (leC_os_is (l := ipL a) rfl rfl rfl rfl (Nat.le_of_eq rfl) ⟨fun k hk => ?_⟩)))
       · iterate 3 (rcases j with _ | j; (first | exact leC_int rfl | exact leC_bool rfl))
         exact absurd hj (by show ¬ _ < 3; omega)
       · iterate 16 (rcases k with _ | k; exact rfl)
         exact absurd hk (by show ¬ _ < 16; omega))
    | skip
theorem check_ok (f t : Adr) (l : List Ctx) (now : Int) (hl : l.length ≤ 9223372036854775807) : PureOk Try.prog 79 [(cE eAdr).enc f, (cE eAdr).enc t, (cSl eCtx eCtx_sz).enc l, (cI .i64).enc now] ((cI .i64).enc (checkF f t l now)) := by
  obtain ⟨x, ex⟩ : ∃ x, adrValid f = x := ⟨_, rfl⟩
  obtain ⟨y, ey⟩ : ∃ x, adrValid t = x := ⟨_, rfl⟩
  obtain ⟨z, ez⟩ : ∃ x, validT l = x := ⟨_, rfl⟩
  obtain ⟨W, eW⟩ : ∃ W, checkF f t l now = W := ⟨_, rfl⟩
  rw [eW]
  unfold checkF vt at eW
  rw [ex, ey, ez] at eW
  have g1 : True := trivial
  have g2 : True := trivial
  refine pure_intro (wd := 1) (Q := mkQ LIh2) (by decide) tysOk (q_of LIh2_ok) mixed Try.func79 rfl _ (by show 4 ≤ _; decide) _ ?_
  repeat' (first | (apply And.intro <;> intro hc <;> (first | exact Bool.noConfusion hc | (simp only [decide_eq_true_eq, decide_eq_false_iff_not, Bool.not_eq_true', Bool.not_eq_false', beq_iff_eq, beq_eq_false_iff_ne, bne_iff_ne, bne_eq_false_iff_eq, Bool.true_eq_false, Bool.false_eq_true, ne_eq, not_true_eq_false] at hc <;> first | exact absurd rfl hc | skip) | skip)) | (refine And.intro (by first | exact trivial | decide | omega | (dsimp only; omega) | exact fun _ _ => rfl | exact ⟨by assumption, by first | exact trivial | decide | omega | (dsimp only; omega)⟩) ?_) | (apply And.intro) | (intro s hs; (first | (clear g1; have q : x = s := (hs.trans ((congrArg adrValid (rd_adr f)).trans ex)).symm; clear hs; subst q) | (clear g2; have q : y = s := (hs.trans ((congrArg adrValid (rd_adr t)).trans ey)).symm; clear hs; subst q) | (have q : z = s := (hs.trans ((congrArg validT (toL_ctx l)).trans ez)).symm; clear hs; subst q))))
  all_goals first
    | (show (toL eCtx l.length _).length ≤ _; rw [toL_len]; exact hl)
    | (refine Done.mk (leF_int ?_)
       rw [← eW]
       simp [*]
       done)
    | (refine Done.mk (leF_int ?_)
       rw [← eW]
       simp [*]
       omega)
    | skip
abbrev encIS (r : Int × List Int) : FV := .tup [.c (.int .i64 r.1), .c (slR eB r.2)]
end Go.Proofs.Ytjknkfjhcapocaa.AX
/- Layer 14 by AX2: fields of the program. (Printed by gen/ihfields.py.) -/
namespace Go.Proofs.Ytjknkfjhcapocaa.AX
open Go.RowKit
set_option linter.unusedVariables false
set_option linter.unusedSimpArgs false
theorem len3 {l : List Int} (h : l.length = 3) : ∃ x y z, l = [x, y, z] := by
  rcases l with _ | ⟨x, _ | ⟨y, _ | ⟨z, _ | ⟨v, l⟩⟩⟩⟩
  all_goals first
    | exact ⟨_, _, _, rfl⟩
    | (simp at h; done)
    | (simp at h; omega)
set_option maxHeartbeats 8000000 in
set_option maxRecDepth 20000 in
theorem fields_17 (p : Pkt) (hf : 0 ≤ p.1.flow ∧ p.1.flow < 4294967296) (hn : p.1.nxt = 17) : PureOk Try.prog 80 [cPk.enc p] (encIS (firstF p, inlF p)) := by
  have w1 : IntKind.u64.wrap p.1.flow = p.1.flow := IntWalk.u64_in _ (by omega)
  obtain ⟨f1, f2, f3, e3⟩ := len3 (beB_n p.1.flow 3 (by decide))
  have e3' : beB p.1.flow 3 = [f1, f2, f3] := e3
  have eF : beB (IntKind.u64.wrap p.1.flow) 3 = [f1, f2, f3] := by rw [w1]; exact e3
  have c0 : ¬ p.1.cls = 0 → ¬ p.1.flow = 0 → flowF p = (0, [p.1.cls, f1, f2, f3]) := fun h g => by unfold flowF; rw [if_pos ⟨h, g⟩, e3']; rfl
  have c1 : p.1.cls = 0 → ¬ p.1.flow = 0 → flowF p = (1, [f1, f2, f3]) := fun h g => by unfold flowF; rw [if_neg (fun x => x.1 h), if_pos g, e3']; rfl
  have c2 : p.1.flow = 0 → ¬ p.1.cls = 0 → flowF p = (2, [p.1.cls]) := fun h g => by unfold flowF; rw [if_neg (fun x => x.2 h), if_neg (fun x => x h), if_pos g]
  have c3 : p.1.flow = 0 → p.1.cls = 0 → flowF p = (3, []) := fun h g => by unfold flowF; rw [if_neg (fun x => x.2 h), if_neg (fun x => x h), if_neg (fun x => x g)]
  have h1 : p.1.hops = 1 → hopF p.1.hops = 1 := fun h => by rw [h]; rfl
  have h2 : p.1.hops = 64 → hopF p.1.hops = 2 := fun h => by rw [h]; rfl
  have h3 : p.1.hops = 255 → hopF p.1.hops = 3 := fun h => by rw [h]; rfl
  have h0 : ¬ p.1.hops = 1 → ¬ p.1.hops = 64 → ¬ p.1.hops = 255 → hopF p.1.hops = 0 := fun a b c => by unfold hopF; rw [if_neg a, if_neg b, if_neg c]
  have eb : bitV (decide (p.1.nxt = 17)) 4 = 4 := by unfold bitV; rw [decide_eq_true hn]; rfl
  obtain ⟨W, eW⟩ : ∃ W, (firstF p, inlF p) = W := ⟨_, rfl⟩
  have hW : W = (96 + 8 * (flowF p).1 + 4 + hopF p.1.hops, (flowF p).2 ++ [] ++ (if hopF p.1.hops = 0 then [p.1.hops] else [])) := by
    rw [← eW]
    unfold firstF inlF
    rw [eb, if_pos hn]
  rw [eW]
  clear eW e3 e3' w1
  refine pure_intro (wd := 1) (Q := mkQ LIh2) (by decide) tysOk (q_of LIh2_ok) mixed Try.func80 rfl _ (by show 1 ≤ _; decide) _ ?_
  repeat' (first | (apply And.intro <;> intro hc <;> (first | exact Bool.noConfusion hc | (exfalso; first | exact absurd hn hc | exact absurd hc hn | exact absurd (by assumption : p.1.flow = 0) hc | exact absurd hc (by assumption : ¬ p.1.flow = 0) | exact absurd (by assumption : p.1.cls = 0) hc | exact absurd hc (by assumption : ¬ p.1.cls = 0)) | (simp only [decide_eq_true_eq, decide_eq_false_iff_not, Bool.not_eq_true', Bool.not_eq_false', beq_iff_eq, beq_eq_false_iff_ne, bne_iff_ne, bne_eq_false_iff_eq, Bool.true_eq_false, Bool.false_eq_true, ne_eq, not_true_eq_false] at hc <;> first | exact absurd rfl hc | (exfalso; first | exact absurd hn hc | exact absurd hc hn | exact absurd (by assumption : p.1.flow = 0) hc | exact absurd hc (by assumption : ¬ p.1.flow = 0) | exact absurd (by assumption : p.1.cls = 0) hc | exact absurd hc (by assumption : ¬ p.1.cls = 0)) | skip) | skip)) | (refine And.intro (by first | exact trivial | decide | omega | (dsimp only; omega) | exact fun _ _ => rfl | exact ⟨by assumption, by first | exact trivial | decide | omega | (dsimp only; omega)⟩) ?_) | (apply And.intro) | (intro s hs; (first | (have q : s = 4 := hs.trans eb; clear hs; subst q) | (have q : s = [p.1.cls, f1, f2, f3] := hs.trans (congrArg ([p.1.cls] ++ ·) eF); clear hs; subst q) | (have q : s = [f1, f2, f3] := hs.trans eF; clear hs; subst q) | skip)))
  all_goals try (first | exact Nat.le_refl _ | exact rfl | exact Nat.le_of_ble_eq_true rfl | exact Nat.zero_le _ | (show (toL eB _ _).length ≤ _; rw [toL_len]; decide))
  all_goals first
    | (have e := hW
       rw [c0 (by assumption) (by assumption), h1 (by assumption)] at e
       rw [e]
       refine Done.mk (leF_tup ⟨leC_int rfl, ?_, trivial⟩)
       first
         | exact leC_nils_sl rfl
         | (refine leC_os_is rfl rfl rfl rfl (Nat.le_of_eq rfl) ⟨fun k hk => ?_⟩
            rcases k with _ | _ | _ | _ | _ | _ | k
            all_goals first
              | exact rfl
              | exact Bool.noConfusion ((Nat.ble_eq_true_of_le hk).symm.trans (rfl : Nat.ble _ _ = false))
              | exact absurd hk (Nat.not_lt.2 (Nat.le_trans (Nat.le_of_ble_eq_true rfl : _ ≤ 6) (by omega)))))
    | (have e := hW
       rw [c0 (by assumption) (by assumption), h2 (by assumption)] at e
       rw [e]
       refine Done.mk (leF_tup ⟨leC_int rfl, ?_, trivial⟩)
       first
         | exact leC_nils_sl rfl
         | (refine leC_os_is rfl rfl rfl rfl (Nat.le_of_eq rfl) ⟨fun k hk => ?_⟩
            rcases k with _ | _ | _ | _ | _ | _ | k
            all_goals first
              | exact rfl
              | exact Bool.noConfusion ((Nat.ble_eq_true_of_le hk).symm.trans (rfl : Nat.ble _ _ = false))
              | exact absurd hk (Nat.not_lt.2 (Nat.le_trans (Nat.le_of_ble_eq_true rfl : _ ≤ 6) (by omega)))))
    | (have e := hW
       rw [c0 (by assumption) (by assumption), h3 (by assumption)] at e
       rw [e]
       refine Done.mk (leF_tup ⟨leC_int rfl, ?_, trivial⟩)
       first
         | exact leC_nils_sl rfl
         | (refine leC_os_is rfl rfl rfl rfl (Nat.le_of_eq rfl) ⟨fun k hk => ?_⟩
            rcases k with _ | _ | _ | _ | _ | _ | k
            all_goals first
              | exact rfl
              | exact Bool.noConfusion ((Nat.ble_eq_true_of_le hk).symm.trans (rfl : Nat.ble _ _ = false))
              | exact absurd hk (Nat.not_lt.2 (Nat.le_trans (Nat.le_of_ble_eq_true rfl : _ ≤ 6) (by omega)))))
    | (have e := hW
       rw [c0 (by assumption) (by assumption), h0 (by assumption) (by assumption) (by assumption)] at e
       rw [e]
       refine Done.mk (leF_tup ⟨leC_int rfl, ?_, trivial⟩)
       first
         | exact leC_nils_sl rfl
         | (refine leC_os_is rfl rfl rfl rfl (Nat.le_of_eq rfl) ⟨fun k hk => ?_⟩
            rcases k with _ | _ | _ | _ | _ | _ | k
            all_goals first
              | exact rfl
              | exact Bool.noConfusion ((Nat.ble_eq_true_of_le hk).symm.trans (rfl : Nat.ble _ _ = false))
              | exact absurd hk (Nat.not_lt.2 (Nat.le_trans (Nat.le_of_ble_eq_true rfl : _ ≤ 6) (by omega)))))
    | (have e := hW
       rw [c1 (by assumption) (by assumption), h1 (by assumption)] at e
       rw [e]
       refine Done.mk (leF_tup ⟨leC_int rfl, ?_, trivial⟩)
       first
         | exact leC_nils_sl rfl
         | (refine leC_os_is rfl rfl rfl rfl (Nat.le_of_eq rfl) ⟨fun k hk => ?_⟩
            rcases k with _ | _ | _ | _ | _ | _ | k
            all_goals first
              | exact rfl
              | exact Bool.noConfusion ((Nat.ble_eq_true_of_le hk).symm.trans (rfl : Nat.ble _ _ = false))
              | exact absurd hk (Nat.not_lt.2 (Nat.le_trans (Nat.le_of_ble_eq_true rfl : _ ≤ 6) (by omega)))))
    | (have e := hW
       rw [c1 (by assumption) (by assumption), h2 (by assumption)] at e
       rw [e]
       refine Done.mk (leF_tup ⟨leC_int rfl, ?_, trivial⟩)
       first
         | exact leC_nils_sl rfl
         | (refine leC_os_is rfl rfl rfl rfl (Nat.le_of_eq rfl) ⟨fun k hk => ?_⟩
            rcases k with _ | _ | _ | _ | _ | _ | k
            all_goals first
              | exact rfl
              | exact Bool.noConfusion ((Nat.ble_eq_true_of_le hk).symm.trans (rfl : Nat.ble _ _ = false))
              | exact absurd hk (Nat.not_lt.2 (Nat.le_trans (Nat.le_of_ble_eq_true rfl : _ ≤ 6) (by omega)))))
    | (have e := hW
       rw [c1 (by assumption) (by assumption), h3 (by assumption)] at e
       rw [e]
       refine Done.mk (leF_tup ⟨leC_int rfl, ?_, trivial⟩)
       first
         | exact leC_nils_sl rfl
         | (refine leC_os_is rfl rfl rfl rfl (Nat.le_of_eq rfl) ⟨fun k hk => ?_⟩
            rcases k with _ | _ | _ | _ | _ | _ | k
            all_goals first
              | exact rfl
              | exact Bool.noConfusion ((Nat.ble_eq_true_of_le hk).symm.trans (rfl : Nat.ble _ _ = false))
              | exact absurd hk (Nat.not_lt.2 (Nat.le_trans (Nat.le_of_ble_eq_true rfl : _ ≤ 6) (by omega)))))
    | (have e := hW
       rw [c1 (by assumption) (by assumption), h0 (by assumption) (by assumption) (by assumption)] at e
       rw [e]
       refine Done.mk (leF_tup ⟨leC_int rfl, ?_, trivial⟩)
       first
         | exact leC_nils_sl rfl
         | (refine leC_os_is rfl rfl rfl rfl (Nat.le_of_eq rfl) ⟨fun k hk => ?_⟩
            rcases k with _ | _ | _ | _ | _ | _ | k
            all_goals first
              | exact rfl
              | exact Bool.noConfusion ((Nat.ble_eq_true_of_le hk).symm.trans (rfl : Nat.ble _ _ = false))
              | exact absurd hk (Nat.not_lt.2 (Nat.le_trans (Nat.le_of_ble_eq_true rfl : _ ≤ 6) (by omega)))))
    | (have e := hW
       rw [c2 (by assumption) (by assumption), h1 (by assumption)] at e
       rw [e]
       refine Done.mk (leF_tup ⟨leC_int rfl, ?_, trivial⟩)
       first
         | exact leC_nils_sl rfl
         | (refine leC_os_is rfl rfl rfl rfl (Nat.le_of_eq rfl) ⟨fun k hk => ?_⟩
            rcases k with _ | _ | _ | _ | _ | _ | k
            all_goals first
              | exact rfl
              | exact Bool.noConfusion ((Nat.ble_eq_true_of_le hk).symm.trans (rfl : Nat.ble _ _ = false))
              | exact absurd hk (Nat.not_lt.2 (Nat.le_trans (Nat.le_of_ble_eq_true rfl : _ ≤ 6) (by omega)))))
    | (have e := hW
       rw [c2 (by assumption) (by assumption), h2 (by assumption)] at e
       rw [e]
       refine Done.mk (leF_tup ⟨leC_int rfl, ?_, trivial⟩)
       first
         | exact leC_nils_sl rfl
         | (refine leC_os_is rfl rfl rfl rfl (Nat.le_of_eq rfl) ⟨fun k hk => ?_⟩
            rcases k with _ | _ | _ | _ | _ | _ | k
            all_goals first
              | exact rfl
              | exact Bool.noConfusion ((Nat.ble_eq_true_of_le hk).symm.trans (rfl : Nat.ble _ _ = false))
              | exact absurd hk (Nat.not_lt.2 (Nat.le_trans (Nat.le_of_ble_eq_true rfl : _ ≤ 6) (by omega)))))
    | (have e := hW
       rw [c2 (by assumption) (by assumption), h3 (by assumption)] at e
       rw [e]
       refine Done.mk (leF_tup ⟨leC_int rfl, ?_, trivial⟩)
       first
         | exact leC_nils_sl rfl
         | (refine leC_os_is rfl rfl rfl rfl (Nat.le_of_eq rfl) ⟨fun k hk => ?_⟩
            rcases k with _ | _ | _ | _ | _ | _ | k
            all_goals first
              | exact rfl
              | exact Bool.noConfusion ((Nat.ble_eq_true_of_le hk).symm.trans (rfl : Nat.ble _ _ = false))
              | exact absurd hk (Nat.not_lt.2 (Nat.le_trans (Nat.le_of_ble_eq_true rfl : _ ≤ 6) (by omega)))))
    | (have e := hW
       rw [c2 (by assumption) (by assumption), h0 (by assumption) (by assumption) (by assumption)] at e
       rw [e]
       refine Done.mk (leF_tup ⟨leC_int rfl, ?_, trivial⟩)
       first
         | exact leC_nils_sl rfl
         | (refine leC_os_is rfl rfl rfl rfl (Nat.le_of_eq rfl) ⟨fun k hk => ?_⟩
            rcases k with _ | _ | _ | _ | _ | _ | k
            all_goals first
              | exact rfl
              | exact Bool.noConfusion ((Nat.ble_eq_true_of_le hk).symm.trans (rfl : Nat.ble _ _ = false))
              | exact absurd hk (Nat.not_lt.2 (Nat.le_trans (Nat.le_of_ble_eq_true rfl : _ ≤ 6) (by omega)))))
    | (have e := hW
       rw [c3 (by assumption) (by assumption), h1 (by assumption)] at e
       rw [e]
       refine Done.mk (leF_tup ⟨leC_int rfl, ?_, trivial⟩)
       first
         | exact leC_nils_sl rfl
         | (refine leC_os_is rfl rfl rfl rfl (Nat.le_of_eq rfl) ⟨fun k hk => ?_⟩
            rcases k with _ | _ | _ | _ | _ | _ | k
            all_goals first
              | exact rfl
              | exact Bool.noConfusion ((Nat.ble_eq_true_of_le hk).symm.trans (rfl : Nat.ble _ _ = false))
              | exact absurd hk (Nat.not_lt.2 (Nat.le_trans (Nat.le_of_ble_eq_true rfl : _ ≤ 6) (by omega)))))
    | (have e := hW
       rw [c3 (by assumption) (by assumption), h2 (by assumption)] at e
       rw [e]
       refine Done.mk (leF_tup ⟨leC_int rfl, ?_, trivial⟩)
       first
         | exact leC_nils_sl rfl
         | (refine leC_os_is rfl rfl rfl rfl (Nat.le_of_eq rfl) ⟨fun k hk => ?_⟩
            rcases k with _ | _ | _ | _ | _ | _ | k
            all_goals first
              | exact rfl
              | exact Bool.noConfusion ((Nat.ble_eq_true_of_le hk).symm.trans (rfl : Nat.ble _ _ = false))
              | exact absurd hk (Nat.not_lt.2 (Nat.le_trans (Nat.le_of_ble_eq_true rfl : _ ≤ 6) (by omega)))))
    | (have e := hW
       rw [c3 (by assumption) (by assumption), h3 (by assumption)] at e
       rw [e]
       refine Done.mk (leF_tup ⟨leC_int rfl, ?_, trivial⟩)
       first
         | exact leC_nils_sl rfl
         | (refine leC_os_is rfl rfl rfl rfl (Nat.le_of_eq rfl) ⟨fun k hk => ?_⟩
            rcases k with _ | _ | _ | _ | _ | _ | k
            all_goals first
              | exact rfl
              | exact Bool.noConfusion ((Nat.ble_eq_true_of_le hk).symm.trans (rfl : Nat.ble _ _ = false))
              | exact absurd hk (Nat.not_lt.2 (Nat.le_trans (Nat.le_of_ble_eq_true rfl : _ ≤ 6) (by omega)))))
    | (have e := hW
       rw [c3 (by assumption) (by assumption), h0 (by assumption) (by assumption) (by assumption)] at e
       rw [e]
       refine Done.mk (leF_tup ⟨leC_int rfl, ?_, trivial⟩)
       first
         | exact leC_nils_sl rfl
         | (refine leC_os_is rfl rfl rfl rfl (Nat.le_of_eq rfl) ⟨fun k hk => ?_⟩
            rcases k with _ | _ | _ | _ | _ | _ | k
            all_goals first
              | exact rfl
              | exact Bool.noConfusion ((Nat.ble_eq_true_of_le hk).symm.trans (rfl : Nat.ble _ _ = false))
              | exact absurd hk (Nat.not_lt.2 (Nat.le_trans (Nat.le_of_ble_eq_true rfl : _ ≤ 6) (by omega)))))
    | skip
set_option maxHeartbeats 8000000 in
set_option maxRecDepth 20000 in
theorem fields_no (p : Pkt) (hf : 0 ≤ p.1.flow ∧ p.1.flow < 4294967296) (hn : ¬ p.1.nxt = 17) : PureOk Try.prog 80 [cPk.enc p] (encIS (firstF p, inlF p)) := by
  have w1 : IntKind.u64.wrap p.1.flow = p.1.flow := IntWalk.u64_in _ (by omega)
  obtain ⟨f1, f2, f3, e3⟩ := len3 (beB_n p.1.flow 3 (by decide))
  have e3' : beB p.1.flow 3 = [f1, f2, f3] := e3
  have eF : beB (IntKind.u64.wrap p.1.flow) 3 = [f1, f2, f3] := by rw [w1]; exact e3
  have c0 : ¬ p.1.cls = 0 → ¬ p.1.flow = 0 → flowF p = (0, [p.1.cls, f1, f2, f3]) := fun h g => by unfold flowF; rw [if_pos ⟨h, g⟩, e3']; rfl
  have c1 : p.1.cls = 0 → ¬ p.1.flow = 0 → flowF p = (1, [f1, f2, f3]) := fun h g => by unfold flowF; rw [if_neg (fun x => x.1 h), if_pos g, e3']; rfl
  have c2 : p.1.flow = 0 → ¬ p.1.cls = 0 → flowF p = (2, [p.1.cls]) := fun h g => by unfold flowF; rw [if_neg (fun x => x.2 h), if_neg (fun x => x h), if_pos g]
  have c3 : p.1.flow = 0 → p.1.cls = 0 → flowF p = (3, []) := fun h g => by unfold flowF; rw [if_neg (fun x => x.2 h), if_neg (fun x => x h), if_neg (fun x => x g)]
  have h1 : p.1.hops = 1 → hopF p.1.hops = 1 := fun h => by rw [h]; rfl
  have h2 : p.1.hops = 64 → hopF p.1.hops = 2 := fun h => by rw [h]; rfl
  have h3 : p.1.hops = 255 → hopF p.1.hops = 3 := fun h => by rw [h]; rfl
  have h0 : ¬ p.1.hops = 1 → ¬ p.1.hops = 64 → ¬ p.1.hops = 255 → hopF p.1.hops = 0 := fun a b c => by unfold hopF; rw [if_neg a, if_neg b, if_neg c]
  have eb : bitV (decide (p.1.nxt = 17)) 4 = 0 := by unfold bitV; rw [decide_eq_false hn]; rfl
  obtain ⟨W, eW⟩ : ∃ W, (firstF p, inlF p) = W := ⟨_, rfl⟩
  have hW : W = (96 + 8 * (flowF p).1 + 0 + hopF p.1.hops, (flowF p).2 ++ [p.1.nxt] ++ (if hopF p.1.hops = 0 then [p.1.hops] else [])) := by
    rw [← eW]
    unfold firstF inlF
    rw [eb, if_neg hn]
  rw [eW]
  clear eW e3 e3' w1
  refine pure_intro (wd := 1) (Q := mkQ LIh2) (by decide) tysOk (q_of LIh2_ok) mixed Try.func80 rfl _ (by show 1 ≤ _; decide) _ ?_
  repeat' (first | (apply And.intro <;> intro hc <;> (first | exact Bool.noConfusion hc | (exfalso; first | exact absurd hn hc | exact absurd hc hn | exact absurd (by assumption : p.1.flow = 0) hc | exact absurd hc (by assumption : ¬ p.1.flow = 0) | exact absurd (by assumption : p.1.cls = 0) hc | exact absurd hc (by assumption : ¬ p.1.cls = 0)) | (simp only [decide_eq_true_eq, decide_eq_false_iff_not, Bool.not_eq_true', Bool.not_eq_false', beq_iff_eq, beq_eq_false_iff_ne, bne_iff_ne, bne_eq_false_iff_eq, Bool.true_eq_false, Bool.false_eq_true, ne_eq, not_true_eq_false] at hc <;> first | exact absurd rfl hc | (exfalso; first | exact absurd hn hc | exact absurd hc hn | exact absurd (by assumption : p.1.flow = 0) hc | exact absurd hc (by assumption : ¬ p.1.flow = 0) | exact absurd (by assumption : p.1.cls = 0) hc | exact absurd hc (by assumption : ¬ p.1.cls = 0)) | skip) | skip)) | (refine And.intro (by first | exact trivial | decide | omega | (dsimp only; omega) | exact fun _ _ => rfl | exact ⟨by assumption, by first | exact trivial | decide | omega | (dsimp only; omega)⟩) ?_) | (apply And.intro) | (intro s hs; (first | (have q : s = 0 := hs.trans eb; clear hs; subst q) | (have q : s = [p.1.cls, f1, f2, f3] := hs.trans (congrArg ([p.1.cls] ++ ·) eF); clear hs; subst q) | (have q : s = [f1, f2, f3] := hs.trans eF; clear hs; subst q) | skip)))
  all_goals try (first | exact Nat.le_refl _ | exact rfl | exact Nat.le_of_ble_eq_true rfl | exact Nat.zero_le _ | (show (toL eB _ _).length ≤ _; rw [toL_len]; decide))
  all_goals first
    | (have e := hW
       rw [c0 (by assumption) (by assumption), h1 (by assumption)] at e
       rw [e]
       refine Done.mk (leF_tup ⟨leC_int rfl, ?_, trivial⟩)
       first
         | exact leC_nils_sl rfl
         | (refine leC_os_is rfl rfl rfl rfl (Nat.le_of_eq rfl) ⟨fun k hk => ?_⟩
            rcases k with _ | _ | _ | _ | _ | _ | k
            all_goals first
              | exact rfl
              | exact Bool.noConfusion ((Nat.ble_eq_true_of_le hk).symm.trans (rfl : Nat.ble _ _ = false))
              | exact absurd hk (Nat.not_lt.2 (Nat.le_trans (Nat.le_of_ble_eq_true rfl : _ ≤ 6) (by omega)))))
    | (have e := hW
       rw [c0 (by assumption) (by assumption), h2 (by assumption)] at e
       rw [e]
       refine Done.mk (leF_tup ⟨leC_int rfl, ?_, trivial⟩)
       first
         | exact leC_nils_sl rfl
         | (refine leC_os_is rfl rfl rfl rfl (Nat.le_of_eq rfl) ⟨fun k hk => ?_⟩
            rcases k with _ | _ | _ | _ | _ | _ | k
            all_goals first
              | exact rfl
              | exact Bool.noConfusion ((Nat.ble_eq_true_of_le hk).symm.trans (rfl : Nat.ble _ _ = false))
              | exact absurd hk (Nat.not_lt.2 (Nat.le_trans (Nat.le_of_ble_eq_true rfl : _ ≤ 6) (by omega)))))
    | (have e := hW
       rw [c0 (by assumption) (by assumption), h3 (by assumption)] at e
       rw [e]
       refine Done.mk (leF_tup ⟨leC_int rfl, ?_, trivial⟩)
       first
         | exact leC_nils_sl rfl
         | (refine leC_os_is rfl rfl rfl rfl (Nat.le_of_eq rfl) ⟨fun k hk => ?_⟩
            rcases k with _ | _ | _ | _ | _ | _ | k
            all_goals first
              | exact rfl
              | exact Bool.noConfusion ((Nat.ble_eq_true_of_le hk).symm.trans (rfl : Nat.ble _ _ = false))
              | exact absurd hk (Nat.not_lt.2 (Nat.le_trans (Nat.le_of_ble_eq_true rfl : _ ≤ 6) (by omega)))))
    | (have e := hW
       rw [c0 (by assumption) (by assumption), h0 (by assumption) (by assumption) (by assumption)] at e
       rw [e]
       refine Done.mk (leF_tup ⟨leC_int rfl, ?_, trivial⟩)
       first
         | exact leC_nils_sl rfl
         | (refine leC_os_is rfl rfl rfl rfl (Nat.le_of_eq rfl) ⟨fun k hk => ?_⟩
            rcases k with _ | _ | _ | _ | _ | _ | k
            all_goals first
              | exact rfl
              | exact Bool.noConfusion ((Nat.ble_eq_true_of_le hk).symm.trans (rfl : Nat.ble _ _ = false))
              | exact absurd hk (Nat.not_lt.2 (Nat.le_trans (Nat.le_of_ble_eq_true rfl : _ ≤ 6) (by omega)))))
    | (have e := hW
       rw [c1 (by assumption) (by assumption), h1 (by assumption)] at e
       rw [e]
       refine Done.mk (leF_tup ⟨leC_int rfl, ?_, trivial⟩)
       first
         | exact leC_nils_sl rfl
         | (refine leC_os_is rfl rfl rfl rfl (Nat.le_of_eq rfl) ⟨fun k hk => ?_⟩
            rcases k with _ | _ | _ | _ | _ | _ | k
            all_goals first
              | exact rfl
              | exact Bool.noConfusion ((Nat.ble_eq_true_of_le hk).symm.trans (rfl : Nat.ble _ _ = false))
              | exact absurd hk (Nat.not_lt.2 (Nat.le_trans (Nat.le_of_ble_eq_true rfl : _ ≤ 6) (by omega)))))
    | (have e := hW
       rw [c1 (by assumption) (by assumption), h2 (by assumption)] at e
       rw [e]
       refine Done.mk (leF_tup ⟨leC_int rfl, ?_, trivial⟩)
       first
         | exact leC_nils_sl rfl
         | (refine leC_os_is rfl rfl rfl rfl (Nat.le_of_eq rfl) ⟨fun k hk => ?_⟩
            rcases k with _ | _ | _ | _ | _ | _ | k
            all_goals first
              | exact rfl
              | exact Bool.noConfusion ((Nat.ble_eq_true_of_le hk).symm.trans (rfl : Nat.ble _ _ = false))
              | exact absurd hk (Nat.not_lt.2 (Nat.le_trans (Nat.le_of_ble_eq_true rfl : _ ≤ 6) (by omega)))))
    | (have e := hW
       rw [c1 (by assumption) (by assumption), h3 (by assumption)] at e
       rw [e]
       refine Done.mk (leF_tup ⟨leC_int rfl, ?_, trivial⟩)
       first
         | exact leC_nils_sl rfl
         | (refine leC_os_is rfl rfl rfl rfl (Nat.le_of_eq rfl) ⟨fun k hk => ?_⟩
            rcases k with _ | _ | _ | _ | _ | _ | k
            all_goals first
              | exact rfl
              | exact Bool.noConfusion ((Nat.ble_eq_true_of_le hk).symm.trans (rfl : Nat.ble _ _ = false))
              | exact absurd hk (Nat.not_lt.2 (Nat.le_trans (Nat.le_of_ble_eq_true rfl : _ ≤ 6) (by omega)))))
    | (have e := hW
       rw [c1 (by assumption) (by assumption), h0 (by assumption) (by assumption) (by assumption)] at e
       rw [e]
       refine Done.mk (leF_tup ⟨leC_int rfl, ?_, trivial⟩)
       first
         | exact leC_nils_sl rfl
         | (refine leC_os_is rfl rfl rfl rfl (Nat.le_of_eq rfl) ⟨fun k hk => ?_⟩
            rcases k with _ | _ | _ | _ | _ | _ | k
            all_goals first
              | exact rfl
              | exact Bool.noConfusion ((Nat.ble_eq_true_of_le hk).symm.trans (rfl : Nat.ble _ _ = false))
              | exact absurd hk (Nat.not_lt.2 (Nat.le_trans (Nat.le_of_ble_eq_true rfl : _ ≤ 6) (by omega)))))
    | (have e := hW
       rw [c2 (by assumption) (by assumption), h1 (by assumption)] at e
       rw [e]
       refine Done.mk (leF_tup ⟨leC_int rfl, ?_, trivial⟩)
       first
         | exact leC_nils_sl rfl
         | (refine leC_os_is rfl rfl rfl rfl (Nat.le_of_eq rfl) ⟨fun k hk => ?_⟩
            rcases k with _ | _ | _ | _ | _ | _ | k
            all_goals first
              | exact rfl
              | exact Bool.noConfusion ((Nat.ble_eq_true_of_le hk).symm.trans (rfl : Nat.ble _ _ = false))
              | exact absurd hk (Nat.not_lt.2 (Nat.le_trans (Nat.le_of_ble_eq_true rfl : _ ≤ 6) (by omega)))))
    | (have e := hW
       rw [c2 (by assumption) (by assumption), h2 (by assumption)] at e
       rw [e]
       refine Done.mk (leF_tup ⟨leC_int rfl, ?_, trivial⟩)
       first
         | exact leC_nils_sl rfl
         | (refine leC_os_is rfl rfl rfl rfl (Nat.le_of_eq rfl) ⟨fun k hk => ?_⟩
            rcases k with _ | _ | _ | _ | _ | _ | k
            all_goals first
              | exact rfl
              | exact Bool.noConfusion ((Nat.ble_eq_true_of_le hk).symm.trans (rfl : Nat.ble _ _ = false))
              | exact absurd hk (Nat.not_lt.2 (Nat.le_trans (Nat.le_of_ble_eq_true rfl : _ ≤ 6) (by omega)))))
    | (have e := hW
       rw [c2 (by assumption) (by assumption), h3 (by assumption)] at e
       rw [e]
       refine Done.mk (leF_tup ⟨leC_int rfl, ?_, trivial⟩)
       first
         | exact leC_nils_sl rfl
         | (refine leC_os_is rfl rfl rfl rfl (Nat.le_of_eq rfl) ⟨fun k hk => ?_⟩
            rcases k with _ | _ | _ | _ | _ | _ | k
            all_goals first
              | exact rfl
              | exact Bool.noConfusion ((Nat.ble_eq_true_of_le hk).symm.trans (rfl : Nat.ble _ _ = false))
              | exact absurd hk (Nat.not_lt.2 (Nat.le_trans (Nat.le_of_ble_eq_true rfl : _ ≤ 6) (by omega)))))
    | (have e := hW
       rw [c2 (by assumption) (by assumption), h0 (by assumption) (by assumption) (by assumption)] at e
       rw [e]
       refine Done.mk (leF_tup ⟨leC_int rfl, ?_, trivial⟩)
       first
         | exact leC_nils_sl rfl
         | (refine leC_os_is rfl rfl rfl rfl (Nat.le_of_eq rfl) ⟨fun k hk => ?_⟩
            rcases k with _ | _ | _ | _ | _ | _ | k
            all_goals first
              | exact rfl
              | exact Bool.noConfusion ((Nat.ble_eq_true_of_le hk).symm.trans (rfl : Nat.ble _ _ = false))
              | exact absurd hk (Nat.not_lt.2 (Nat.le_trans (Nat.le_of_ble_eq_true rfl : _ ≤ 6) (by omega)))))
    | (have e := hW
       rw [c3 (by assumption) (by assumption), h1 (by assumption)] at e
       rw [e]
       refine Done.mk (leF_tup ⟨leC_int rfl, ?_, trivial⟩)
       first
         | exact leC_nils_sl rfl
         | (refine leC_os_is rfl rfl rfl rfl (Nat.le_of_eq rfl) ⟨fun k hk => ?_⟩
            rcases k with _ | _ | _ | _ | _ | _ | k
            all_goals first
              | exact rfl
              | exact Bool.noConfusion ((Nat.ble_eq_true_of_le hk).symm.trans (rfl : Nat.ble _ _ = false))
              | exact absurd hk (Nat.not_lt.2 (Nat.le_trans (Nat.le_of_ble_eq_true rfl : _ ≤ 6) (by omega)))))
    | (have e := hW
       rw [c3 (by assumption) (by assumption), h2 (by assumption)] at e
       rw [e]
       refine Done.mk (leF_tup ⟨leC_int rfl, ?_, trivial⟩)
       first
         | exact leC_nils_sl rfl
         | (refine leC_os_is rfl rfl rfl rfl (Nat.le_of_eq rfl) ⟨fun k hk => ?_⟩
            rcases k with _ | _ | _ | _ | _ | _ | k
            all_goals first
              | exact rfl
              | exact Bool.noConfusion ((Nat.ble_eq_true_of_le hk).symm.trans (rfl : Nat.ble _ _ = false))
              | exact absurd hk (Nat.not_lt.2 (Nat.le_trans (Nat.le_of_ble_eq_true rfl : _ ≤ 6) (by omega)))))
    | (have e := hW
       rw [c3 (by assumption) (by assumption), h3 (by assumption)] at e
       rw [e]
       refine Done.mk (leF_tup ⟨leC_int rfl, ?_, trivial⟩)
       first
         | exact leC_nils_sl rfl
         | (refine leC_os_is rfl rfl rfl rfl (Nat.le_of_eq rfl) ⟨fun k hk => ?_⟩
            rcases k with _ | _ | _ | _ | _ | _ | k
            all_goals first
              | exact rfl
              | exact Bool.noConfusion ((Nat.ble_eq_true_of_le hk).symm.trans (rfl : Nat.ble _ _ = false))
              | exact absurd hk (Nat.not_lt.2 (Nat.le_trans (Nat.le_of_ble_eq_true rfl : _ ≤ 6) (by omega)))))
    | (have e := hW
       rw [c3 (by assumption) (by assumption), h0 (by assumption) (by assumption) (by assumption)] at e
       rw [e]
       refine Done.mk (leF_tup ⟨leC_int rfl, ?_, trivial⟩)
       first
         | exact leC_nils_sl rfl
         | (refine leC_os_is rfl rfl rfl rfl (Nat.le_of_eq rfl) ⟨fun k hk => ?_⟩
            rcases k with _ | _ | _ | _ | _ | _ | k
            all_goals first
              | exact rfl
              | exact Bool.noConfusion ((Nat.ble_eq_true_of_le hk).symm.trans (rfl : Nat.ble _ _ = false))
              | exact absurd hk (Nat.not_lt.2 (Nat.le_trans (Nat.le_of_ble_eq_true rfl : _ ≤ 6) (by omega)))))
    | skip
end Go.Proofs.Ytjknkfjhcapocaa.AX
/- What the makers draw from a tape: packets. -/
namespace Go.Proofs.Ytjknkfjhcapocaa.AX
open Go.RowKit
set_option linter.unusedVariables false
set_option linter.unusedSimpArgs false
set_option maxRecDepth 10000 in
theorem ip_ok (n : Nat) (l : List Int) (q : Int) (a : Adr) (ht : TapeOk n (rI l) q) :
    ∃ (r : Fin 16 → Int) (q' : Int), byteOk r ∧ TapeOk n (rI l) q' ∧ MethOk Try.prog 76 [(cE eAdr).enc a] (tapeN n (rI l) q) ((cE (eA .u8 16)).enc r) (tapeN n (rI l) q') := by
  refine tape_intro (wd := 1) (Q := mkQ LT2) (by decide) tysOk (q_of LT2_ok) mixed Try.func76 rfl _ (by show 1 + 1 ≤ _; decide) (nff_elem (eA .u8 16)) ?_
  repeat' (first | (apply And.intro <;> intro hc <;> (first | exact Bool.noConfusion hc | (simp only [decide_eq_true_eq, decide_eq_false_iff_not, Bool.not_eq_true', Bool.not_eq_false', beq_iff_eq, beq_eq_false_iff_ne, bne_iff_ne, bne_eq_false_iff_eq, Bool.true_eq_false, Bool.false_eq_true] at hc) | skip)) | (refine And.intro (by first | exact trivial | decide | omega | (dsimp only; omega) | exact fun _ _ => rfl | exact ⟨by assumption, by first | exact trivial | decide | omega | (dsimp only; omega)⟩) ?_) | (apply And.intro) | (intro s hs))
  all_goals first
    | exact ⟨(s, _), ⟨by rw [hs]; exact of_byteOk _ _, by assumption⟩, ⟨leF_e (leE_all (by repeat' (first | exact trivial | exact rfl | exact leC_int rfl | exact leC_bool rfl | refine leE_all ?_ | exact leC_bool (by assumption) | apply And.intro))), tapeN_le⟩⟩
    | (rename_i r hr; exact ⟨(r, _), ⟨hr, by assumption⟩, ⟨leF_e (leE_all (by repeat' (first | exact trivial | exact rfl | exact leC_int rfl | exact leC_bool rfl | refine leE_all ?_ | exact leC_bool (by assumption) | apply And.intro))), tapeN_le⟩⟩)
    | exact ⟨(fun _ => 0, _), ⟨⟨fun q => show (0 : Int) ≤ 0 ∧ (0 : Int) < 256 from ⟨by decide, by decide⟩⟩, by assumption⟩, ⟨leF_e (leE_all (by repeat' (first | exact trivial | exact rfl | exact leC_int rfl | exact leC_bool rfl | refine leE_all ?_ | exact leC_bool (by assumption) | apply And.intro))), tapeN_le⟩⟩
theorem addr_ok (n : Nat) (l : List Int) (q : Int) (ht : TapeOk n (rI l) q) :
    ∃ (r : Adr) (q' : Int), True ∧ TapeOk n (rI l) q' ∧ MethOk Try.prog 34 [] (tapeN n (rI l) q) ((cE eAdr).enc r) (tapeN n (rI l) q') := by
  refine tape_intro (wd := 1) (Q := mkQ LT2) (by decide) tysOk (q_of LT2_ok) mixed Try.func34 rfl _ (by show 0 + 1 ≤ _; decide) (nff_elem eAdr) ?_
  repeat' (first | (apply And.intro <;> intro hc <;> (first | exact Bool.noConfusion hc | (simp only [decide_eq_true_eq, decide_eq_false_iff_not, Bool.not_eq_true', Bool.not_eq_false', beq_iff_eq, beq_eq_false_iff_ne, bne_iff_ne, bne_eq_false_iff_eq, Bool.true_eq_false, Bool.false_eq_true] at hc) | skip)) | (refine And.intro (by first | exact trivial | decide | omega | (dsimp only; omega) | exact fun _ _ => rfl | exact ⟨by assumption, by first | exact trivial | decide | omega | (dsimp only; omega)⟩) ?_) | (apply And.intro) | (intro s hs))
  · exact ⟨(⟨2, 65535, 0⟩, _), ⟨trivial, by assumption⟩, ⟨leF_e (leE_all ⟨⟨⟨trivial, leC_int rfl⟩, leC_int rfl⟩, leC_int rfl⟩), tapeN_le⟩⟩
  · exact ⟨(⟨0, 0, 0⟩, _), ⟨trivial, by assumption⟩, ⟨leF_e (leE_all ⟨⟨⟨trivial, leC_int rfl⟩, leC_int rfl⟩, leC_int rfl⟩), tapeN_le⟩⟩
  · exact ⟨(⟨_, _, _⟩, _), ⟨trivial, by assumption⟩, ⟨leF_e (leE_all ⟨⟨⟨trivial, leC_int rfl⟩, leC_int rfl⟩, leC_int rfl⟩), tapeN_le⟩⟩
theorem u16r' (z : Int) : 0 ≤ IntKind.u16.wrap z ∧ IntKind.u16.wrap z < 65536 := by
  simp only [IntKind.wrap, IntKind.signed, IntKind.bits]
  constructor
  · exact Int.emod_nonneg _ (by decide)
  · exact Int.emod_lt_of_pos _ (by decide)
theorem port_ok (n : Nat) (l : List Int) (q : Int) (ht : TapeOk n (rI l) q) :
    ∃ (r : Int) (q' : Int), (0 ≤ r ∧ r < 65536) ∧ TapeOk n (rI l) q' ∧ MethOk Try.prog 78 [] (tapeN n (rI l) q) ((cI .u16).enc r) (tapeN n (rI l) q') := by
  refine tape_intro (wd := 1) (Q := mkQ LT2) (by decide) tysOk (q_of LT2_ok) mixed Try.func78 rfl _ (by show 0 + 1 ≤ _; decide) (fun _ => nff_int) ?_
  repeat' (first | (apply And.intro <;> intro hc <;> (first | exact Bool.noConfusion hc | (simp only [decide_eq_true_eq, decide_eq_false_iff_not, Bool.not_eq_true', Bool.not_eq_false', beq_iff_eq, beq_eq_false_iff_ne, bne_iff_ne, bne_eq_false_iff_eq, Bool.true_eq_false, Bool.false_eq_true] at hc) | skip)) | (refine And.intro (by first | exact trivial | decide | omega | (dsimp only; omega) | exact fun _ _ => rfl | exact ⟨by assumption, by first | exact trivial | decide | omega | (dsimp only; omega)⟩) ?_) | (apply And.intro) | (intro s hs))
  all_goals exact ⟨(_, _), ⟨u16r' _, by assumption⟩, ⟨leF_int rfl, tapeN_le⟩⟩
theorem nff_slB {L : List Int} : NFF (.e (.c (slR eB L))) := nff_c (nf_sl fun i _ j _ => (eB.flat _ _).nf)
structure BytS (n : Nat) (l : List Int) (K : Nat) where
  i : Nat
  L : List Int
  q : Int
  hi : i ≤ K
  hL : L.length = K
  hb : BL L
  ht : TapeOk n (rI l) q
theorem bl_set {L : List Int} {i : Nat} {v : Int} (h : BL L) (hv : 0 ≤ v ∧ v < 256) : BL (L.set i v) := ⟨fun x hx => by
  rcases List.mem_or_eq_of_mem_set hx with h1 | h1
  · exact h.m x h1
  · rw [h1]; exact hv⟩
theorem bl_rep (n : Nat) : BL (List.replicate n 0) := ⟨fun x hx => by rw [(List.mem_replicate.1 hx).2]; omega⟩
theorem isRow_rep (n : Nat) : IsRow (fun _ => nth [CV.int .u8 0]) (List.replicate n 0) := ⟨fun k hk => by show CV.int .u8 0 = _; rw [List.getD_eq_getElem?_getD, List.getElem?_eq_getElem hk, List.getElem_replicate]; rfl⟩
theorem leN_setI {c : Wc} {t : TypeId} {L : List Int} {idx i n : Nat} {x : Int} {g : Nat → CV} (e : idx = i) (hn : n = L.length) (hi : i < L.length) (hg : g 0 = .int .u8 x) : LeN c ⟨t, n, eB.sz, false, updE false (rowF eB L) idx g⟩ (ents eB t (L.set i x)) := by
  subst e
  refine leN_set hn hi (fun i _ j _ => (eB.flat _ _).le) fun j hj => ?_
  have hj : j < 1 := hj
  obtain rfl : j = 0 := by omega
  rw [hg]
  exact leC_int rfl
set_option maxHeartbeats 4000000 in
set_option maxRecDepth 10000 in
theorem bytes_ok (n : Nat) (l : List Int) (q m : Int) (ht : TapeOk n (rI l) q) (h1 : 0 ≤ m) (h2 : m ≤ 2000) :
    ∃ (r : List Int) (q' : Int), (BL r ∧ (r.length : Int) ≤ m) ∧ TapeOk n (rI l) q' ∧ MethOk Try.prog 77 [(cI .i64).enc m] (tapeN n (rI l) q) (.e (.c (slR eB r))) (tapeN n (rI l) q') := by
  have w1 : IntKind.i64.wrap (m + 1) = m + 1 := IntWalk.i64_in _ (by omega)
  refine tape_intro (S := fun r => BL r ∧ (r.length : Int) ≤ m) (enc := fun r => .e (.c (slR eB r))) (wd := 1) (Q := mkQ LT2) (by decide) tysOk (q_of LT2_ok) mixed Try.func77 rfl _ (by show 1 + 1 ≤ _; decide) (fun _ => nff_slB) ?_
  repeat' (first | (apply And.intro <;> intro hc <;> (first | exact Bool.noConfusion hc | (simp only [decide_eq_true_eq, decide_eq_false_iff_not, Bool.not_eq_true', Bool.not_eq_false', beq_iff_eq, beq_eq_false_iff_ne, bne_iff_ne, bne_eq_false_iff_eq, Bool.true_eq_false, Bool.false_eq_true] at hc) | skip)) | (refine And.intro (by first | exact trivial | decide | omega | (dsimp only; omega) | exact fun _ _ => rfl | exact ⟨by assumption, by first | exact trivial | decide | omega | (dsimp only; omega)⟩) ?_) | (apply And.intro) | (intro s hs))
  rename_i s1 hs1
  have hs1' : 0 ≤ s1 ∧ s1 < IntKind.i64.wrap (m + 1) := hs1
  rw [w1] at hs1'
  refine loop_intro (mono_of LT2_ok) (fun s : BytS n l s1.toNat => (⟨[(0, one (.ptr 0 0 0 false)), (5, one (.os 6 0 s.L.length)), (6, one (.int .i64 (s.i : Int)))],
    [(0, some (tapeN n (rI l) s.q)), (6, some (ents eB 5 s.L))], 7⟩ : Hd)) (fun s => s1.toNat - s.i) (fun _ => rfl) ?_ ⟨0, List.replicate s1.toNat 0, _, by omega, by simp, bl_rep _, hs⟩ [] ?_
  · rintro ⟨i, L, q2, hi, hL, hb, ht2⟩
    dsimp only at hi hL hb ht2 ⊢
    repeat' (first | (apply And.intro <;> intro hc <;> (first | exact Bool.noConfusion hc | (simp only [decide_eq_true_eq, decide_eq_false_iff_not, Bool.not_eq_true', Bool.not_eq_false', beq_iff_eq, beq_eq_false_iff_ne, bne_iff_ne, bne_eq_false_iff_eq, Bool.true_eq_false, Bool.false_eq_true] at hc) | skip)) | (refine And.intro (by first | exact trivial | decide | omega | (dsimp only; omega) | exact fun _ _ => rfl | exact ⟨by assumption, by first | exact trivial | decide | omega | (dsimp only; omega)⟩) ?_) | (apply And.intro) | (intro s hs))
    · rename_i s2 hs2
      refine ⟨⟨i + 1, L.set i (IntKind.u8.wrap s2), _, by omega, by rw [List.length_set]; exact hL, bl_set hb (u8r _), hs⟩, [], by dsimp only; omega, rfl, ?_, ?_⟩
      · repeat' (first | exact trivial | exact rfl | exact leF_ptr rfl | exact leF_int rfl | exact leF_bool rfl | exact leF_cl (cl_slB _ _) | exact leF_cl (cl_slR _ _) | exact leF_cl (cl_ll _ _) | exact leF_c (leC_os rfl rfl) | refine leF_int ?_ | refine leF_bool ?_ | exact leN_varA (fun _ _ => (Elem.flat _ _ _).le) | exact leN_varA (fun _ _ => leC_top) | apply And.intro)
        · exact leF_c (leC_os rfl (by dsimp only; rw [List.length_set]))
        · refine (IntWalk.i64_in _ ?_).trans ?_
          · constructor <;> omega
          · dsimp only
            omega
      · repeat' (first | exact trivial | exact rfl | exact leF_ptr rfl | exact leF_int rfl | exact leF_bool rfl | exact leF_cl (cl_slB _ _) | exact leF_cl (cl_slR _ _) | exact leF_cl (cl_ll _ _) | exact leF_c (leC_os rfl rfl) | refine leF_int ?_ | refine leF_bool ?_ | exact leN_varA (fun _ _ => (Elem.flat _ _ _).le) | exact leN_varA (fun _ _ => leC_top) | apply And.intro)
        · exact tapeN_le
        · exact leN_setI (by omega) rfl (by omega) rfl
    · exact ⟨(L, q2), ⟨⟨hb, (show (L.length : Int) ≤ m by omega)⟩, ht2⟩, ⟨leF_c (leC_row_fin rfl rfl), tapeN_le⟩⟩
  · refine ⟨rfl, ?_, ?_⟩
    · repeat' (first | exact trivial | exact rfl | exact leF_ptr rfl | exact leF_int rfl | exact leF_bool rfl | exact leF_cl (cl_slB _ _) | exact leF_cl (cl_slR _ _) | exact leF_cl (cl_ll _ _) | exact leF_c (leC_os rfl rfl) | refine leF_int ?_ | refine leF_bool ?_ | exact leN_varA (fun _ _ => (Elem.flat _ _ _).le) | exact leN_varA (fun _ _ => leC_top) | apply And.intro)
      exact leF_c (leC_os rfl (by simp))
    · repeat' (first | exact trivial | exact rfl | exact leF_ptr rfl | exact leF_int rfl | exact leF_bool rfl | exact leF_cl (cl_slB _ _) | exact leF_cl (cl_slR _ _) | exact leF_cl (cl_ll _ _) | exact leF_c (leC_os rfl rfl) | refine leF_int ?_ | refine leF_bool ?_ | exact leN_varA (fun _ _ => (Elem.flat _ _ _).le) | exact leN_varA (fun _ _ => leC_top) | apply And.intro)
      · exact tapeN_le
      · exact leN_is (by simp) (isRow_rep _)
abbrev bytesE : Entry := tapeE (AC.cons (cI .i64) AC.nil) (fun a => 0 ≤ a.1 ∧ a.1 ≤ 2000) (fun a (r : List Int) => BL r ∧ (r.length : Int) ≤ a.1) (fun r => .e (.c (slR eB r)))
structure FilS (K : Nat) where
  i : Nat
  L : List Int
  hi : i ≤ K
  hL : L.length = K
  hb : BL L
def arr5 (a b c d e : Int) : Fin 5 → Int := fun q => if q.1 = 0 then a else if q.1 = 1 then b else if q.1 = 2 then c else if q.1 = 3 then d else e
set_option maxHeartbeats 4000000 in
set_option maxRecDepth 10000 in
theorem pfill_ok (n : Nat) (l : List Int) (q m : Int) (ht : TapeOk n (rI l) q) (h1 : 0 ≤ m) (h2 : m ≤ 2000) :
    ∃ (r : List Int) (q' : Int), (BL r ∧ (r.length : Int) = m) ∧ TapeOk n (rI l) q' ∧ MethOk Try.prog 51 [(cI .i64).enc m] (tapeN n (rI l) q) (.e (.c (slR eB r))) (tapeN n (rI l) q') := by
  refine tape_intro (S := fun r => BL r ∧ (r.length : Int) = m) (enc := fun r => .e (.c (slR eB r))) (wd := 1) (Q := mkQ LT2) (by decide) tysOk (q_of LT2_ok) mixed Try.func51 rfl _ (by show 1 + 1 ≤ _; decide) (fun _ => nff_slB) ?_
  repeat' (first | (apply And.intro <;> intro hc <;> (first | exact Bool.noConfusion hc | (simp only [decide_eq_true_eq, decide_eq_false_iff_not, Bool.not_eq_true', Bool.not_eq_false', beq_iff_eq, beq_eq_false_iff_ne, bne_iff_ne, bne_eq_false_iff_eq, Bool.true_eq_false, Bool.false_eq_true] at hc) | skip)) | (refine And.intro (by first | exact trivial | decide | omega | (dsimp only; omega) | exact fun _ _ => rfl | exact ⟨by assumption, by first | exact trivial | decide | omega | (dsimp only; omega)⟩) ?_) | (apply And.intro) | (intro s hs))
  rename_i s4 hs4 q4 hq4 s2 hs2 q2 hq2 s0 hs0
  refine loop_intro (mono_of LT2_ok) (fun z : FilS m.toNat => (⟨[(0, one (.ptr 0 0 0 false)), (1, one (.int .i64 m)), (5, one (.ptr 12 0 0 false)), (6, one (.os 15 0 z.L.length)), (7, one (.int .i64 (z.i : Int)))],
    [(0, some (tapeN n (rI l) s)), (12, some ⟨130, 1, 5, true, fun _ => (eA .u8 5).cell (arr5 (IntKind.u8.wrap s4) (IntKind.u8.wrap s2) 0 (IntKind.u8.wrap s0) 7)⟩), (15, some (ents eB 5 z.L))], 16⟩ : Hd)) (fun z => m.toNat - z.i) (fun _ => rfl) ?_ ⟨0, List.replicate m.toNat 0, by omega, by simp, bl_rep _⟩ [] ?_
  · rintro ⟨i, L, hi, hL, hb⟩
    dsimp only at hi hL hb ⊢
    have a1 : 0 ≤ (i : Int).tmod 5 := Int.tmod_nonneg 5 (by omega)
    have a2 : (i : Int).tmod 5 < 5 := Int.tmod_lt_of_pos (i : Int) (by decide)
    repeat' (first | (apply And.intro <;> intro hc <;> (first | exact Bool.noConfusion hc | (simp only [decide_eq_true_eq, decide_eq_false_iff_not, Bool.not_eq_true', Bool.not_eq_false', beq_iff_eq, beq_eq_false_iff_ne, bne_iff_ne, bne_eq_false_iff_eq, Bool.true_eq_false, Bool.false_eq_true] at hc) | skip)) | (refine And.intro (by first | exact trivial | decide | omega | (dsimp only; omega) | exact fun _ _ => rfl | exact ⟨by assumption, by first | exact trivial | decide | omega | (dsimp only; omega)⟩) ?_) | (apply And.intro) | (intro s hs))
    · refine ⟨⟨i + 1, L.set i (IntKind.u8.wrap (vget (arr5 (IntKind.u8.wrap s4) (IntKind.u8.wrap s2) 0 (IntKind.u8.wrap s0) 7) (0 + ((i : Int).tmod 5).toNat * 1 + 0) + IntKind.u8.wrap (IntKind.i64.wrap ((i : Int).tdiv 5)))), by omega, by rw [List.length_set]; exact hL, bl_set hb (u8r _)⟩, [], by dsimp only; omega, rfl, ?_, ?_⟩
      · repeat' (first | exact trivial | exact rfl | exact leF_ptr rfl | exact leF_int rfl | exact leF_bool rfl | exact leF_cl (cl_slB _ _) | exact leF_cl (cl_slR _ _) | exact leF_cl (cl_ll _ _) | exact leF_c (leC_os rfl rfl) | refine leF_int ?_ | refine leF_bool ?_ | exact leN_varA (fun _ _ => (Elem.flat _ _ _).le) | exact leN_varA (fun _ _ => leC_top) | apply And.intro)
        · exact leF_c (leC_os rfl (by dsimp only; rw [List.length_set]))
        · refine (IntWalk.i64_in _ ?_).trans ?_
          · constructor <;> omega
          · dsimp only
            omega
      · repeat' (first | exact trivial | exact rfl | exact leF_ptr rfl | exact leF_int rfl | exact leF_bool rfl | exact leF_cl (cl_slB _ _) | exact leF_cl (cl_slR _ _) | exact leF_cl (cl_ll _ _) | exact leF_c (leC_os rfl rfl) | refine leF_int ?_ | refine leF_bool ?_ | exact leN_varA (fun _ _ => (Elem.flat _ _ _).le) | exact leN_varA (fun _ _ => leC_top) | apply And.intro)
        · exact tapeN_le
        · exact leN_setI (by omega) rfl (by omega) rfl
    · exact ⟨(L, s), ⟨⟨hb, (show (L.length : Int) = m by omega)⟩, hs⟩, ⟨leF_c (leC_row_fin rfl rfl), tapeN_le⟩⟩
  · refine ⟨rfl, ?_, ?_⟩
    · repeat' (first | exact trivial | exact rfl | exact leF_ptr rfl | exact leF_int rfl | exact leF_bool rfl | exact leF_cl (cl_slB _ _) | exact leF_cl (cl_slR _ _) | exact leF_cl (cl_ll _ _) | exact leF_c (leC_os rfl rfl) | refine leF_int ?_ | refine leF_bool ?_ | exact leN_varA (fun _ _ => (Elem.flat _ _ _).le) | exact leN_varA (fun _ _ => leC_top) | apply And.intro)
      exact leF_c (leC_os rfl (by simp))
    · repeat' (first | exact trivial | exact rfl | exact leF_ptr rfl | exact leF_int rfl | exact leF_bool rfl | exact leF_cl (cl_slB _ _) | exact leF_cl (cl_slR _ _) | exact leF_cl (cl_ll _ _) | exact leF_c (leC_os rfl rfl) | refine leF_int ?_ | refine leF_bool ?_ | exact leN_varA (fun _ _ => (Elem.flat _ _ _).le) | exact leN_varA (fun _ _ => leC_top) | apply And.intro)
      · exact tapeN_le
      · refine leN_var ?_
        repeat' (first | exact trivial | exact leC_int rfl | apply And.intro)
      · exact leN_is (by simp) (isRow_rep _)
abbrev pfillE : Entry := tapeE (AC.cons (cI .i64) AC.nil) (fun a => 0 ≤ a.1 ∧ a.1 ≤ 2000) (fun a (r : List Int) => BL r ∧ (r.length : Int) = a.1) (fun r => .e (.c (slR eB r)))
abbrev ipE : Entry := tapeE (AC.cons (cE eAdr) AC.nil) (fun _ => True) (fun a r => byteOk r) (cE (eA .u8 16)).enc
abbrev addrE : Entry := tapeE AC.nil (fun _ => True) (fun a (r : Adr) => True) (cE eAdr).enc
abbrev portE : Entry := tapeE AC.nil (fun _ => True) (fun a (r : Int) => 0 ≤ r ∧ r < 65536) (cI .u16).enc
def LM0 : CsL := (77, some bytesE) :: (51, some pfillE) :: (76, some ipE) :: (34, some addrE) :: (78, some portE) :: (33, some newTapeE) :: []
theorem LM0_ok : AllOk Try.prog LM0 := ⟨tapeE_ok ⟨_, Try.func77, rfl, by kernel_rfl⟩ fun n l q a ht hp => bytes_ok n l q a.1 ht hp.1 hp.2, tapeE_ok ⟨_, Try.func51, rfl, by kernel_rfl⟩ fun n l q a ht hp => pfill_ok n l q a.1 ht hp.1 hp.2, tapeE_ok ⟨_, Try.func76, rfl, by kernel_rfl⟩ fun n l q a ht hp => ip_ok n l q a.1 ht, tapeE_ok ⟨_, Try.func34, rfl, by kernel_rfl⟩ fun n l q a ht hp => addr_ok n l q ht, tapeE_ok ⟨_, Try.func78, rfl, by kernel_rfl⟩ fun n l q a ht hp => port_ok n l q ht, newTapeE_ok, trivial⟩
def LM : CsL := LM0 ++ (LT1 ++ LPi)
theorem LM_ok : AllOk Try.prog LM := append_ok LM0_ok (append_ok LT1_ok LPi_ok)
end Go.Proofs.Ytjknkfjhcapocaa.AX
/- When a drawn packet is valid (plain law for the maker Packet). -/
namespace Go.Proofs.Ytjknkfjhcapocaa.AX
open Go.RowKit
set_option linter.unusedVariables false
structure PkM (p : Pkt) : Prop where
  v : validP p = true
  w : PkW p
theorem vget_in {a : Fin 16 → Int} (h : byteOk a) (i : Nat) : 0 ≤ vget a i ∧ vget a i < 256 := by
  unfold vget
  split
  · exact h.q _
  · exact ⟨by decide, by decide⟩
theorem pkM_mk {cls flow nxt hops sp dp : Int} {src dst : Fin 16 → Int} {pay : List Int} (h1 : 0 ≤ cls ∧ cls < 256) (h2 : 0 ≤ flow ∧ flow < 1048576) (h3 : 0 ≤ nxt ∧ nxt < 256) (h4 : 0 ≤ hops ∧ hops < 256)
    (h5 : byteOk src) (h6 : byteOk dst) (h7 : 0 ≤ sp ∧ sp < 65536) (h8 : 0 ≤ dp ∧ dp < 65536) (h9 : BL pay) (h10 : vget src 0 ≠ 255) (h11 : (if nxt = 17 then (48 : Int) else 40) + pay.length ≤ 1280) (h12 : nxt = 17 ∨ sp = 0 ∧ dp = 0) :
    PkM (⟨cls, flow, nxt, hops, src, dst, sp, dp⟩, pay) := by
  refine ⟨?_, ⟨h1, ⟨h2.1, ?_⟩, h3, h4, vget_in h5, vget_in h6, h7, h8, h9⟩⟩
  · unfold validP mcast sizeP
    simp only [Bool.and_eq_true, Bool.or_eq_true, decide_eq_true_eq, Bool.not_eq_true', decide_eq_false_iff_not]
    exact ⟨⟨⟨by omega, h10⟩, h11⟩, h12⟩
  · show flow < 4294967296
    omega
/-- The choices of the next header and of the hops, as the walk leaves them. -/
theorem pick5 (s a b c d e : Int) (h : ∀ x, (x = a ∨ x = b ∨ x = c ∨ x = d ∨ x = e ∨ x = 0) → 0 ≤ x ∧ x < 256) (t : Nat) :
    0 ≤ (bif t.beq 4 then a else bif t.beq 3 then b else bif t.beq 2 then c else bif t.beq 1 then d else bif t.beq 0 then e else 0) ∧ (bif t.beq 4 then a else bif t.beq 3 then b else bif t.beq 2 then c else bif t.beq 1 then d else bif t.beq 0 then e else 0) < 256 := by
  apply h
  cases t.beq 4 <;> cases t.beq 3 <;> cases t.beq 2 <;> cases t.beq 1 <;> cases t.beq 0 <;> simp
end Go.Proofs.Ytjknkfjhcapocaa.AX
/- Plain laws: decoding undoes encoding, and the other way; the reference's decoder and forwarder are those of the program. -/
namespace Go.Proofs.Ytjknkfjhcapocaa.AX
open Go.RowKit
set_option linter.unusedVariables false
set_option linter.unusedSimpArgs false
theorem u16_id {x : Int} (h : 0 ≤ x ∧ x < 65536) : IntKind.u16.wrap x = x := IntWalk.u16_in _ (by omega)
theorem uI2_r {b : List Int} (hb : BL b) {a : Int} {k : Nat} (e : a = k) (h : k + 2 ≤ b.length) : 0 ≤ uI b a 2 ∧ uI b a 2 < 65536 := by
  rw [uI_2 e h]
  have h1 := hb.get k; have h2 := hb.get (k + 1)
  omega
theorem sizeP_ge (p : Pkt) : 40 ≤ sizeP p ∧ (p.1.nxt = 17 → 48 ≤ sizeP p) := by unfold sizeP; split <;> omega
theorem enc_nxt (p : Pkt) (s : Int) : (encB p s).getD 6 default = p.1.nxt := by rw [encB_hd]; rfl
theorem enc_hops (p : Pkt) (s : Int) : (encB p s).getD 7 default = p.1.hops := by rw [encB_hd]; rfl
theorem sumP_other {p : Pkt} (h : p.1.nxt ≠ 17) : sumP p = 0 := by
  unfold sumP; rw [if_neg (fun k => h k.2)]
/-- What is needed of the length of an encoding. -/
theorem enc_lens {p : Pkt} (hp : PkM p) (s : Int) : (40 ≤ (encB p s).length ∧ (encB p s).length ≤ 1280) ∧ ((encB p s).getD 6 default = 17 → 48 ≤ (encB p s).length) := by
  have h1 := encB_len p s
  have h2 := valid_size hp.v
  have h3 := sizeP_ge p
  rw [enc_nxt]
  refine ⟨by omega, fun h => ?_⟩
  have := h3.2 h
  omega
/-- What the decoder says of bytes with a right header. -/
theorem dec_hdr {p : Pkt} (hp : PkM p) {s : Int} (hs : 0 ≤ s ∧ s < 65536) : decF (encB p s) = if p.1.nxt = 17 ∧ s ≠ sumP p then (pk0, 6) else (p, 0) := by
  have hl := enc_lens hp s
  have hb := encB_BL hp.w s
  have hk := pkF_enc hp.w hp.v hs
  have hc := (encB_pkF hb hl.1 hl.2 hs).1 (by rw [hk])
  have hl2 := hl.2
  have hcv : p.1.nxt = 17 → IntKind.u16.wrap (uI (encB p s) 46 2) = s ∧ sum0 (coverB (encB p s)) = sumP p := fun h => by
    rw [← (hc.2 ((enc_nxt p s).trans h)).2, u16_id hs, cover_enc h, sumP_covL hp.v h]
    exact ⟨rfl, rfl⟩
  rw [enc_nxt] at hc hl2
  unfold decF
  rw [hk, hp.v, enc_nxt, if_neg (by omega), if_neg (by omega), if_neg (fun h => h.elim (fun h => h hc.1.1) (fun h => h hc.1.2)), if_neg (fun h => h.2 (hc.2 h.1).1), if_neg (by decide)]
  by_cases hu : p.1.nxt = 17
  · obtain ⟨e1, e2⟩ := hcv hu
    rw [e1, e2]
  · rw [if_neg (fun h => hu h.1), if_neg (fun h => hu h.1)]
theorem enc_dec {p : Pkt} (hp : PkM p) : decF (encB p (sumP p)) = (p, 0) := by
  rw [dec_hdr hp (sumP_r p), if_neg (fun h => h.2 rfl)]
/-- What is decoded is the encoding of a valid packet. -/
theorem dec_enc {b : List Int} (hb : BL b) (h : (decF b).2 = 0) : decF b = (pkF b, 0) ∧ PkM (pkF b) ∧ b = encB (pkF b) (sumP (pkF b)) := by
  obtain ⟨l1, l2, e⟩ := dec_len h
  rw [e] at h
  refine ⟨e, ?_⟩
  unfold decF at e
  split at e
  · cases congrArg Prod.snd e
  · split at e
    · cases congrArg Prod.snd e
    · rename_i c1 c2
      split at e
      · cases congrArg Prod.snd e
      · rename_i c3
        split at e
        · cases congrArg Prod.snd e
        · rename_i c4
          split at e
          · cases congrArg Prod.snd e
          · rename_i c5
            split at e
            · cases congrArg Prod.snd e
            · rename_i c6
              have hlen : b.getD 6 default = 17 → 48 ≤ b.length := fun k => by
                rcases Nat.lt_or_ge b.length 48 with h' | h'
                · exact absurd (.inr ⟨h', k⟩) c2
                · exact h'
              have hv : validP (pkF b) = true := by cases hv : validP (pkF b) with | true => rfl | false => exact absurd hv c5
              have hw := pkF_w hb l1
              have d3 : shrI .u64 (uI b 0 4) 28 = 6 ∧ uI b 4 2 = IntKind.u64.wrap (IntKind.i64.wrap (b.length - 40)) := by
                refine ⟨Classical.byContradiction fun k => c3 (.inl k), Classical.byContradiction fun k => c3 (.inr k)⟩
              refine ⟨⟨hv, hw⟩, ?_⟩
              by_cases hu : b.getD 6 default = 17
              · have h48 := hlen hu
                have d4 : uI b 44 2 = IntKind.u64.wrap (IntKind.i64.wrap (b.length - 40)) := Classical.byContradiction fun k => c4 ⟨hu, k⟩
                have d6 : IntKind.u16.wrap (uI b 46 2) = sum0 (coverB b) := Classical.byContradiction fun k => c6 ⟨hu, k⟩
                have hr := uI2_r hb (a := 46) (k := 46) rfl (by omega)
                rw [u16_id hr] at d6
                have e1 := (encB_pkF hb ⟨l1, l2⟩ hlen hr).2 ⟨d3, fun _ => ⟨d4, rfl⟩⟩
                have e2 : sumP (pkF b) = uI b 46 2 := by
                  rw [sumP_covL hv ((pkF_nxt b).trans hu), ← cover_enc ((pkF_nxt b).trans hu) (uI b 46 2), e1, d6]
                rw [e2]; exact e1.symm
              · rw [sumP_other (by rw [pkF_nxt]; exact hu)]
                exact ((encB_pkF hb ⟨l1, l2⟩ hlen ⟨Int.le_refl _, by decide⟩).2 ⟨d3, fun k => absurd k hu⟩).symm
/-- The checksum that the reference reads. -/
def rsumB (b : List Int) : Int := if b.getD 6 default = 17 then IntKind.u16.wrap (uI b 46 2) else 0
def rdecF (b : List Int) : Pkt × Int :=
  if 1280 < b.length then (pk0, 3)
  else if b.length < 40 ∨ b.length < 48 ∧ b.getD 6 default = 17 then (pk0, 4)
  else if validP (pkF b) = false ∨ encB (pkF b) (rsumB b) ≠ b then (pk0, 5)
  else if b.getD 6 default = 17 ∧ rsumB b ≠ sumP (pkF b) then (pk0, 6)
  else (pkF b, 0)
theorem rdec_eq {b : List Int} (hb : BL b) : rdecF b = decF b := by
  unfold rdecF decF
  split
  · rfl
  · rename_i c1
    split
    · rfl
    · rename_i c2
      have l1 : 40 ≤ b.length := by omega
      have l2 : b.length ≤ 1280 := by omega
      have hlen : b.getD 6 default = 17 → 48 ≤ b.length := fun k => by
        rcases Nat.lt_or_ge b.length 48 with h' | h'
        · exact absurd (.inr ⟨h', k⟩) c2
        · exact h'
      have hr : 0 ≤ rsumB b ∧ rsumB b < 65536 := by
        unfold rsumB
        split
        · exact u16r' _
        · omega
      have hk := encB_pkF hb ⟨l1, l2⟩ hlen hr
      have hs46 : b.getD 6 default = 17 → rsumB b = uI b 46 2 := fun hu => by
        have h48 := hlen hu
        unfold rsumB
        rw [if_pos hu, u16_id (uI2_r hb (a := 46) (k := 46) rfl (by omega))]
      cases hv : validP (pkF b) with
      | false =>
        rw [if_pos (.inl rfl)]
        split
        · rfl
        · split
          · rfl
          · rw [if_pos rfl]
      | true =>
        by_cases he : encB (pkF b) (rsumB b) = b
        · obtain ⟨d3, d4⟩ := hk.1 he
          rw [if_neg (fun h => h.elim (by decide) (fun h => h he)), if_neg (c := shrI .u64 (uI b 0 4) 28 ≠ 6 ∨ _) (fun h => h.elim (fun h => h d3.1) (fun h => h d3.2)), if_neg (c := b.getD 6 default = 17 ∧ uI b 44 2 ≠ _) (fun h => h.2 (d4 h.1).1), if_neg (c := true = false) (by decide)]
          by_cases hu : b.getD 6 default = 17
          · have e2 : sumP (pkF b) = sum0 (coverB b) := by
              rw [sumP_covL hv ((pkF_nxt b).trans hu), ← cover_enc ((pkF_nxt b).trans hu) (rsumB b), he]
            have e3 : rsumB b = IntKind.u16.wrap (uI b 46 2) := by unfold rsumB; rw [if_pos hu]
            rw [e2, e3]
          · rw [if_neg (fun h => hu h.1), if_neg (fun h => hu h.1)]
        · rw [if_pos (.inr he)]
          by_cases d3 : shrI .u64 (uI b 0 4) 28 ≠ 6 ∨ uI b 4 2 ≠ IntKind.u64.wrap (IntKind.i64.wrap (b.length - 40))
          · rw [if_pos d3]
          · rw [if_neg d3]
            by_cases d4 : b.getD 6 default = 17 ∧ uI b 44 2 ≠ IntKind.u64.wrap (IntKind.i64.wrap (b.length - 40))
            · rw [if_pos d4]
            · exact absurd (hk.2 ⟨⟨Classical.byContradiction fun k => d3 (.inl k), Classical.byContradiction fun k => d3 (.inr k)⟩, fun hu => ⟨Classical.byContradiction fun k => d4 ⟨hu, k⟩, hs46 hu⟩⟩) he
/-- Other hops. -/
def withHops (p : Pkt) (h : Int) : Pkt := ({ p.1 with hops := h }, p.2)
theorem sumP_hops (p : Pkt) (h : Int) : sumP (withHops p h) = sumP p := by
  by_cases hv : validP p = true ∧ p.1.nxt = 17
  · rw [sumP_covL (p := withHops p h) hv.1 hv.2, sumP_covL hv.1 hv.2]; rfl
  · unfold sumP
    rw [if_neg hv, if_neg (show ¬ (validP (withHops p h) = true ∧ (withHops p h).1.nxt = 17) from hv)]
theorem encB_hops (p : Pkt) (h s : Int) : encB (withHops p h) s = (encB p s).set 7 h := by
  rw [encB_hd, encB_hd]; rfl
theorem withHops_m {p : Pkt} (hp : PkM p) {h : Int} (hh : 0 ≤ h ∧ h < 256) : PkM (withHops p h) := ⟨hp.v, ⟨hp.w.cls, hp.w.flow, hp.w.nxt, hh, hp.w.src, hp.w.dst, hp.w.sp, hp.w.dp, hp.w.pay⟩⟩
/-- Forwarding an encoding. -/
theorem fwd_enc {p : Pkt} (hp : PkM p) : fwdF (encB p (sumP p)) = if p.1.hops < 2 then ([], 2) else (encB (withHops p (p.1.hops - 1)) (sumP p), 0) := by
  unfold fwdF
  rw [enc_dec hp, if_neg (fun h => h rfl)]
  dsimp only
  split
  · rfl
  · have h := hp.w.hops
    rw [enc_hops, encB_hops, IntWalk.u8_in _ (by omega)]
def rfwdF (b : List Int) : List Int × Int :=
  if (decF b).2 ≠ 0 then ([], (decF b).2)
  else if (decF b).1.1.hops < 2 then ([], 2)
  else ((encR (withHops (decF b).1 (IntKind.u8.wrap ((decF b).1.1.hops - 1)))).getD [], ecR (encR (withHops (decF b).1 (IntKind.u8.wrap ((decF b).1.1.hops - 1)))))
theorem rfwd_eq {b : List Int} (hb : BL b) : rfwdF b = fwdF b := by
  by_cases h : (decF b).2 = 0
  · obtain ⟨e1, hp, e2⟩ := dec_enc hb h
    generalize hpp : pkF b = p at e1 hp e2
    subst e2
    rw [fwd_enc hp]
    unfold rfwdF
    rw [enc_dec hp, if_neg (fun h => h rfl)]
    dsimp only
    have hh := hp.w.hops
    split
    · rfl
    · have hm := withHops_m hp (h := p.1.hops - 1) (by omega)
      rw [IntWalk.u8_in _ (by omega)]
      have e : encR (withHops p (p.1.hops - 1)) = some (encB (withHops p (p.1.hops - 1)) (sumP p)) := by
        unfold encR
        rw [if_pos hm.v, sumP_hops]
      rw [e]; rfl
  · unfold rfwdF fwdF
    rw [if_pos h, if_pos h]
end Go.Proofs.Ytjknkfjhcapocaa.AX
/- Layer 13 by AX2: upper, Pseudo, Sum, encode, Encode of the reference. -/
namespace Go.Proofs.Ytjknkfjhcapocaa.AX
open Go.RowKit
set_option linter.unusedVariables false
set_option linter.unusedSimpArgs false
def upB (p : Pkt) (s : Int) : List Int := (if p.1.nxt = 17 then encU p s else []) ++ p.2
theorem wlen {p : Pkt} (hl : p.2.length ≤ 70368744177664) : IntKind.u64.wrap (IntKind.i64.wrap (sizeP p - 40)) = sizeP p - 40 := by
  have : 40 ≤ sizeP p ∧ sizeP p ≤ 70368744200000 := by unfold sizeP; split <;> omega
  rw [IntWalk.i64_in _ (by omega)]
  exact IntWalk.u64_in _ (by omega)
theorem leN_app2 {c : Wc} {n : Nat} {F : Nat → Nat → CV} {l : List Int} {t : TypeId} (hn : n = l.length) (h : IsRow F l) : LeN c ⟨t, n, 1, false, F⟩ (ents eB t l) := leN_is hn h
theorem toL_nil (f : Nat → Nat → CV) : toL eB 0 f = [] := rfl
theorem app_le {s t : List Int} {v n : Int} (h : s = t ++ beB v n) : s.length ≤ t.length + 8 := by
  rw [h, List.length_append]
  have := beB_len v n
  omega
theorem ip_at {a : Fin 16 → Int} {k i : Nat} (e : i = k) (hk : k < (ipL a).length) : CV.int .u8 (vget a i) = .int .u8 ((ipL a).getD k default) := by
  rw [ipL_len] at hk
  rw [e]
  unfold ipL
  rw [List.getD_eq_getElem?_getD, List.getElem?_map, List.getElem?_range hk]; rfl
def LRp0 : CsL := (22, some validE) :: LPi
theorem LRp0_ok : AllOk Try.prog LRp0 := ⟨pureE_ok ⟨_, Try.func22, rfl, by kernel_rfl⟩ fun a h => rpvalid_ok a.1 h, LPi_ok⟩
set_option maxHeartbeats 8000000 in
set_option maxRecDepth 20000 in
theorem upper_ok (p : Pkt) (s0 : Int) (hp : PkW p) (hl : p.2.length ≤ 70368744177664) (hs0 : 0 ≤ s0 ∧ s0 < 65536) : NewOk Try.prog 70 [cPk.enc p, (cI .u16).enc s0] (some (upB p s0).length) none (ents eB 5 (upB p s0)) := by
  obtain ⟨w, eW⟩ : ∃ w, upB p s0 = w := ⟨_, rfl⟩
  have h1 := hp.sp
  have h2 := hp.dp
  have w1 : IntKind.u64.wrap p.1.sp = p.1.sp := IntWalk.u64_in _ (by omega)
  have w2 : IntKind.u64.wrap p.1.dp = p.1.dp := IntWalk.u64_in _ (by omega)
  have w3 : IntKind.u64.wrap s0 = s0 := IntWalk.u64_in _ (by omega)
  have w4 := wlen hl
  rw [eW]
  refine new_intro (wd := 1) (Q := mkQ LRp0) (by decide) tysOk (q_of LRp0_ok) mixed Try.func70 rfl _ (by show 2 ≤ _; decide) (fun i _ j _ => row_nf eB _ i j) ?_
  repeat' (first | (apply And.intro <;> intro hc <;> (first | exact Bool.noConfusion hc | (simp only [decide_eq_true_eq, decide_eq_false_iff_not, Bool.not_eq_true', Bool.not_eq_false', beq_iff_eq, beq_eq_false_iff_ne, bne_iff_ne, bne_eq_false_iff_eq, Bool.true_eq_false, Bool.false_eq_true, ne_eq, not_true_eq_false] at hc <;> first | exact absurd rfl hc | skip) | skip)) | (refine And.intro (by first | exact trivial | decide | omega | (dsimp only; omega) | exact fun _ _ => rfl | exact ⟨by assumption, by first | exact trivial | decide | omega | (dsimp only; omega)⟩) ?_) | (apply And.intro) | (intro s hs; (first | (have q : s = sizeP p := hs.trans (congrArg sizeP (pk_eq p _)); clear hs; subst q) | (dsimp only at hs; (first | rw [toL_b0] at hs | rw [toL_nil] at hs); have hln := app_le hs; try rw [List.length_nil] at hln) | skip)))
  all_goals first
    | exact rfl
    | (dsimp only; rw [toL_b0]; omega)
    | (dsimp only; rw [toL_b]; omega)
    | (dsimp only; rw [toL_nil]; decide)
    | omega
    | (dsimp only; omega)
    | skip
  · rename_i z1 hz1 _ z2 hz2 _ z3 hz3 _
    have e : w = s ++ p.2 := by
      rw [← eW]
      unfold upB encU
      rw [if_pos hc, hs, hz3, hz2, hz1, w1, w2, w3, w4]; rfl
    rw [e]
    refine ⟨⟨some _, leF_c (leC_os rfl (by rw [List.length_append])), leN_is (by rw [List.length_append]) (isRow_sel rfl (isRow_row _) fun k hk => ?_)⟩⟩
    rw [show s.length + k - s.length = k by omega]; rfl
  · have e : w = p.2 := by
      rw [← eW]
      unfold upB
      rw [if_neg hc]; rfl
    rw [e]
    exact ⟨⟨some _, leF_c (leC_os rfl rfl), leN_is rfl (isRow_row _)⟩⟩
abbrev upE : Entry := newE (AC.cons cPk (AC.cons (cI .u16) AC.nil)) (fun a => PkW a.1 ∧ a.1.2.length ≤ 70368744177664 ∧ 0 ≤ a.2.1 ∧ a.2.1 < 65536) (fun a => upB a.1 a.2.1) (fun L => some L.length) (fun _ => none) (fun L => ents eB 5 L)
def psB (src dst : Fin 16 → Int) (n nx : Int) : List Int := ipL src ++ ipL dst ++ beB (IntKind.u64.wrap n) 4 ++ [0, 0, 0, nx]
theorem ps_row (Z : Nat → Nat → CV) (src dst : Fin 16 → Int) : IsRow (fun k j => (fun k j => selC (k.blt (0 + (16 - 0))) ((fun k j => selC (k.blt 0) (Z k j) ((fun k q => (fun x => (eA IntKind.u8 16).cell src) 0 (0 + 0 * 1 + (k * 1 + q))) (k - 0) j)) k j) ((fun k q => (fun x => (eA IntKind.u8 16).cell dst) 0 (0 + 0 * 1 + (k * 1 + q))) (k - (0 + (16 - 0))) j)) (0 + k) j) ([] ++ ipL src ++ ipL dst) := by
  refine isRow_0 (F := fun k j => selC (k.blt (0 + (16 - 0))) (selC (k.blt 0) (Z k j) ((eA IntKind.u8 16).cell src (0 + 0 * 1 + ((k - 0) * 1 + j)))) ((eA IntKind.u8 16).cell dst (0 + 0 * 1 + ((k - (0 + (16 - 0))) * 1 + j)))) (isRow_sel (A := fun k j => selC (k.blt 0) (Z k j) ((eA IntKind.u8 16).cell src (0 + 0 * 1 + ((k - 0) * 1 + j)))) (C := fun k j => (eA IntKind.u8 16).cell dst (0 + 0 * 1 + ((k - (0 + (16 - 0))) * 1 + j))) (n := 16) rfl (isRow_sel (A := Z) (C := fun k j => (eA IntKind.u8 16).cell src (0 + 0 * 1 + ((k - 0) * 1 + j))) (n := 0) (l1 := []) rfl ⟨fun k hk => absurd hk (Nat.not_lt_zero _)⟩ fun k hk => ?_) fun k hk => ?_)
  · exact ip_at (by omega) hk
  · exact ip_at (by omega) hk
set_option maxHeartbeats 8000000 in
set_option maxRecDepth 20000 in
theorem pseudo_ok (src dst : Fin 16 → Int) (n nx : Int) : NewOk Try.prog 69 [(cE (eA .u8 16)).enc src, (cE (eA .u8 16)).enc dst, (cI .i64).enc n, (cI .u8).enc nx] (some (psB src dst n nx).length) none (ents eB 5 (psB src dst n nx)) := by
  obtain ⟨w, eW⟩ : ∃ w, psB src dst n nx = w := ⟨_, rfl⟩
  rw [eW]
  refine new_intro (wd := 1) (Q := mkQ LRp0) (by decide) tysOk (q_of LRp0_ok) mixed Try.func69 rfl _ (by show 4 ≤ _; decide) (fun i _ j _ => row_nf eB _ i j) ?_
  repeat' (first | (apply And.intro <;> intro hc <;> (first | exact Bool.noConfusion hc | (simp only [decide_eq_true_eq, decide_eq_false_iff_not, Bool.not_eq_true', Bool.not_eq_false', beq_iff_eq, beq_eq_false_iff_ne, bne_iff_ne, bne_eq_false_iff_eq, Bool.true_eq_false, Bool.false_eq_true, ne_eq, not_true_eq_false] at hc <;> first | exact absurd rfl hc | skip) | skip)) | (refine And.intro (by first | exact trivial | decide | omega | (dsimp only; omega) | exact fun _ _ => rfl | exact ⟨by assumption, by first | exact trivial | decide | omega | (dsimp only; omega)⟩) ?_) | (apply And.intro) | (intro s hs; (have q : s = ([] ++ ipL src ++ ipL dst) ++ beB (IntKind.u64.wrap n) 4 := hs.trans (congrArg (fun l => l ++ beB (IntKind.u64.wrap n) 4) (toL_is (l := [] ++ ipL src ++ ipL dst) rfl (ps_row (fun _ => nth [CV.int IntKind.u8 0]) src dst)))); clear hs))
  all_goals first
    | exact rfl
    | (show (toL eB _ _).length ≤ _; rw [toL_len]; omega)
    | (have := congrArg List.length q; have h2 := beB_len (IntKind.u64.wrap n) 4; simp only [List.length_append, ipL_len, List.length_nil] at this; omega)
    | skip
  · exact fun i hi => ok_is (ps_row (fun _ => nth [CV.int IntKind.u8 0]) src dst) hi
  · have e : w = s ++ [0, 0, 0, nx] := by
      rw [← eW, q]; rfl
    rw [e]
    refine ⟨⟨some _, leF_c (leC_os rfl (by rw [List.length_append]; rfl)), leN_is (by rw [List.length_append]; rfl) (isRow_sel rfl (isRow_row _) fun k hk => ?_)⟩⟩
    rw [show s.length + k - s.length = k by omega]
    rcases k with _ | _ | _ | _ | k
    · rfl
    · rfl
    · rfl
    · rfl
    · exact absurd hk (by show ¬ _ < 4; omega)
abbrev pseudoE : Entry := newE (AC.cons (cE (eA .u8 16)) (AC.cons (cE (eA .u8 16)) (AC.cons (cI .i64) (AC.cons (cI .u8) AC.nil)))) (fun _ => True) (fun a => psB a.1 a.2.1 a.2.2.1 a.2.2.2.1) (fun L => some L.length) (fun _ => none) (fun L => ents eB 5 L)
def LRp1 : CsL := (70, some upE) :: (69, some pseudoE) :: LRp0
theorem LRp1_ok : AllOk Try.prog LRp1 := ⟨newE_ok ⟨_, Try.func70, rfl, by kernel_rfl⟩ (fun s l h => by cases h) fun a h => upper_ok a.1 a.2.1 h.1 h.2.1 h.2.2, newE_ok ⟨_, Try.func69, rfl, by kernel_rfl⟩ (fun s l h => by cases h) fun a _ => pseudo_ok a.1 a.2.1 a.2.2.1 a.2.2.2.1, LRp0_ok⟩
theorem dst_eq (h : Hdr) (last : CV) : ((eA .u8 16).rd fun q => tailC eHd h last (0 + 20 + q)) = h.dst := by
  funext q
  show valI (tailC eHd h last (0 + 20 + q.1)) = h.dst q
  rw [show 0 + 20 + q.1 = 20 + q.1 by omega, tailC_lt (show 20 + q.1 < 38 by omega), eHd_dst_at _ _ q.2]
  exact vget_lt _ q.2
theorem upB_17 {p : Pkt} (h : p.1.nxt = 17) (s : Int) : upB p s = encU p s ++ p.2 := by unfold upB; rw [if_pos h]
theorem sum_key {p : Pkt} (hl : p.2.length ≤ 70368744177664) (h : p.1.nxt = 17) : [psB p.1.src p.1.dst (IntKind.i64.wrap (sizeP p - 40)) 17, upB p 0].flatten = covL p := by
  unfold psB
  rw [wlen hl, upB_17 h, ipL_list, ipL_list]
  unfold encU
  rw [beB2, beB2, beB2, beB2]
  simp only [List.flatten_cons, List.flatten_nil, List.append_nil, List.append_assoc]
  rfl
theorem psB_BL {src dst : Fin 16 → Int} (h1 : ∀ i, 0 ≤ vget src i ∧ vget src i < 256) (h2 : ∀ i, 0 ≤ vget dst i ∧ vget dst i < 256) {n nx : Int} (h3 : 0 ≤ nx ∧ nx < 256) : BL (psB src dst n nx) :=
  (((ipL_BL h1).append (ipL_BL h2)).append (beB_BL _ _)).append (BL.cons (by omega) (BL.cons (by omega) (BL.cons (by omega) (BL.cons h3 BL.nil))))
theorem upB_BL {p : Pkt} (hp : PkW p) (s : Int) : BL (upB p s) := by
  unfold upB encU
  refine BL.append ?_ hp.pay
  split
  · exact (((beB_BL _ _).append (beB_BL _ _)).append (beB_BL _ _)).append (beB_BL _ _)
  · exact BL.nil
theorem upB_len (p : Pkt) (s : Int) : (upB p s).length ≤ p.2.length + 8 := by
  unfold upB encU
  split
  · simp only [List.length_append, beB2]; simp; omega
  · simp
theorem psB_len (src dst : Fin 16 → Int) (n nx : Int) : (psB src dst n nx).length ≤ 44 := by
  unfold psB
  have := beB_len (IntKind.u64.wrap n) 4
  simp only [List.length_append, ipL_len, List.length_cons, List.length_nil]
  omega
set_option maxHeartbeats 8000000 in
set_option maxRecDepth 20000 in
theorem rsumP_ok (p : Pkt) (hp : PkW p) (hl : p.2.length ≤ 140737488355328) : PureOk Try.prog 26 [cPk.enc p] ((cI .u16).enc (sumP p)) := by
  refine pure_intro (wd := 1) (Q := mkQ LRp1) (by decide) tysOk (q_of LRp1_ok) mixed Try.func26 rfl _ (by show 1 ≤ _; decide) _ ?_
  repeat' (first | (apply And.intro <;> intro hc <;> (first | exact Bool.noConfusion hc | (simp only [decide_eq_true_eq, decide_eq_false_iff_not, Bool.not_eq_true', Bool.not_eq_false', beq_iff_eq, beq_eq_false_iff_ne, bne_iff_ne, bne_eq_false_iff_eq, Bool.true_eq_false, Bool.false_eq_true, ne_eq, not_true_eq_false] at hc <;> first | exact absurd rfl hc | skip) | skip)) | (refine And.intro (by first | exact trivial | decide | omega | (dsimp only; omega) | exact fun _ _ => rfl | exact ⟨by assumption, by first | exact trivial | decide | omega | (dsimp only; omega)⟩) ?_) | (apply And.intro) | (intro s hs; (first | (have hs' : s = validP p := hs.trans (congrArg validP (pk_eq p _)); clear hs; subst hs') | (have q : s = sizeP p := hs.trans (congrArg sizeP (pk_eq p _)); clear hs; subst q) | (have hq1 : s = psB p.1.src p.1.dst (IntKind.i64.wrap (sizeP p - 40)) 17 := by (rw [hs]; dsimp only; rw [src_eq, dst_eq])) | (have hq2 : s = upB p 0 := hs.trans (congrArg (fun x => upB x 0) (pk_eq p _))) | skip)))
  all_goals
    try (have hvl := valid_len (p := p) (by assumption))
  all_goals first
    | (dsimp only; rw [toL_b]; omega)
    | (dsimp only; rw [pk_eq]; exact hp)
    | exact rfl
    | (dsimp only; omega)
    | exact Done.mk (leF_int (by unfold sumP; rw [if_neg fun h => by first | exact absurd h.1 (by assumption) | exact absurd h.2 (by assumption) | exact Bool.noConfusion (h.1.symm.trans (by assumption))]))
    | skip
  · refine ⟨fun l h => ?_⟩
    dsimp only at h
    rw [toL_b0, toL_b0] at h
    simp only [List.mem_cons, List.not_mem_nil, or_false] at h
    rcases h with rfl | rfl
    · rw [hq1]; exact psB_BL hp.src hp.dst (by omega)
    · rw [hq2]; exact upB_BL hp 0
  · show 2 ≤ 16; decide
  · dsimp only
    rw [toL_b0, toL_b0]
    have h1 := psB_len p.1.src p.1.dst (IntKind.i64.wrap (sizeP p - 40)) 17
    have h2 := upB_len p 0
    rw [← hq1] at h1
    rw [← hq2] at h2
    simp only [List.flatten_cons, List.flatten_nil, List.length_append, List.length_nil]
    omega
  all_goals
    have hv : validP p = true := by assumption
    have h17 : p.1.nxt = 17 := by assumption
    have e : s = inetF (covL p) := by
      refine hs.trans ?_
      clear hs
      dsimp only
      rw [toL_b0, toL_b0, hq1, hq2, sum_key (by have := valid_len hv; omega) h17]
    clear hs
    refine Done.mk (leF_int ?_)
    rw [sumP_covL hv h17]
    unfold sum0
    rw [← e]
    clear e hv h17 hq1 hq2
    first | (rw [if_pos (by assumption)]) | (rw [if_neg (by assumption)])
abbrev rsumE : Entry := pureE PA (fun a => PkW a.1 ∧ a.1.2.length ≤ 140737488355328) (fun a => sumP a.1) (cI .u16).enc
def LRp2 : CsL := (26, some rsumE) :: LRp1
theorem LRp2_ok : AllOk Try.prog LRp2 := ⟨pureE_ok ⟨_, Try.func26, rfl, by kernel_rfl⟩ fun a h => rsumP_ok a.1 h.1 h.2, LRp1_ok⟩
end Go.Proofs.Ytjknkfjhcapocaa.AX
/- Layer 14 by AX2: Encode of the program. -/
namespace Go.Proofs.Ytjknkfjhcapocaa.AX
open Go.RowKit
set_option linter.unusedVariables false
set_option linter.unusedSimpArgs false
theorem fields_ok (p : Pkt) (hf : 0 ≤ p.1.flow ∧ p.1.flow < 4294967296) : PureOk Try.prog 80 [cPk.enc p] (encIS (firstF p, inlF p)) := by
  by_cases h : p.1.nxt = 17
  · exact fields_17 p hf h
  · exact fields_no p hf h
theorem uni_ok (a : Fin 16 → Int) (k : Adr) (source : Bool) (l : List Ctx) (now : Int) (ha : byteOk a) (hl : bytesL l) : PureOk Try.prog 81 [(cE (eA .u8 16)).enc a, (cE eAdr).enc k, cB.enc source, (cSl eCtx eCtx_sz).enc l, (cI .i64).enc now] (encFm (uniF a k source l now)) := by
  by_cases Z : source = true ∧ ipEq a zeroA = true
  · exact uni_ok0 a k source l now ha hl Z
  · exact uni_ok1 a k source l now ha hl Z
abbrev uniA : AC ((Fin 16 → Int) × Adr × Bool × List Ctx × Int × Unit) := AC.cons (cE (eA .u8 16)) (AC.cons (cE eAdr) (AC.cons cB (AC.cons (cSl eCtx eCtx_sz) (AC.cons (cI .i64) AC.nil))))
abbrev uniE : Entry := pureE uniA (fun a => byteOk a.1 ∧ bytesL a.2.2.2.1) (fun a => uniF a.1 a.2.1 a.2.2.1 a.2.2.2.1 a.2.2.2.2.1) encFm
abbrev grpFE : Entry := pureE aIp (fun _ => True) (fun a => grpF a.1) encFm
abbrev chkA : AC (Adr × Adr × List Ctx × Int × Unit) := AC.cons (cE eAdr) (AC.cons (cE eAdr) (AC.cons (cSl eCtx eCtx_sz) (AC.cons (cI .i64) AC.nil)))
abbrev chkE : Entry := pureE chkA (fun a => a.2.2.1.length ≤ 9223372036854775807) (fun a => checkF a.1 a.2.1 a.2.2.1 a.2.2.2.1) (cI .i64).enc
abbrev fldE : Entry := pureE PA (fun a => 0 ≤ a.1.1.flow ∧ a.1.1.flow < 4294967296) (fun a => (firstF a.1, inlF a.1)) encIS
def LIh5 : CsL := (81, some uniE) :: (82, some grpFE) :: (79, some chkE) :: (80, some fldE) :: LIh2
theorem LIh5_ok : AllOk Try.prog LIh5 := ⟨pureE_ok ⟨_, Try.func81, rfl, by kernel_rfl⟩ fun a h => uni_ok a.1 a.2.1 a.2.2.1 a.2.2.2.1 a.2.2.2.2.1 h.1 h.2, pureE_ok ⟨_, Try.func82, rfl, by kernel_rfl⟩ fun a _ => grp_ok a.1, pureE_ok ⟨_, Try.func79, rfl, by kernel_rfl⟩ fun a h => check_ok a.1 a.2.1 a.2.2.1 a.2.2.2.1 h, pureE_ok ⟨_, Try.func80, rfl, by kernel_rfl⟩ fun a h => fields_ok a.1 h, LIh2_ok⟩
/-! ### Ranges -/
structure FmW (f : Fm) : Prop where
  id : 0 ≤ f.id ∧ f.id < 16
  mode : 0 ≤ f.mode ∧ f.mode ≤ 3
theorem iids_m (y : Int) (k : Adr) : 0 ≤ (iidsF y k).1 ∧ (iidsF y k).1 ≤ 3 := by
  unfold iidsF
  split
  · exact ⟨(by decide : (0 : Int) ≤ 3), (by decide : (3 : Int) ≤ 3)⟩
  · split
    · exact ⟨(by decide : (0 : Int) ≤ 2), (by decide : (2 : Int) ≤ 3)⟩
    · exact ⟨(by decide : (0 : Int) ≤ 1), (by decide : (1 : Int) ≤ 3)⟩
theorem uni_w (a : Fin 16 → Int) (k : Adr) (s : Bool) (l : List Ctx) (now : Int) : FmW (uniF a k s l now).1 := by
  refine ⟨uni_id a k s l now, ?_⟩
  have := iids_m (loF a) k
  unfold uniF
  split
  · exact ⟨(by decide : (0 : Int) ≤ 0), (by decide : (0 : Int) ≤ 3)⟩
  · split
    · exact this
    · split
      · exact this
      · exact ⟨(by decide : (0 : Int) ≤ 0), (by decide : (0 : Int) ≤ 3)⟩
theorem grp_w (a : Fin 16 → Int) : FmW (grpF a).1 := by
  unfold grpF
  split
  · exact ⟨⟨(by decide : (0 : Int) ≤ 0), (by decide : (0 : Int) < 16)⟩, (by decide : (0 : Int) ≤ 3), (by decide : (3 : Int) ≤ 3)⟩
  · split
    · exact ⟨⟨(by decide : (0 : Int) ≤ 0), (by decide : (0 : Int) < 16)⟩, (by decide : (0 : Int) ≤ 2), (by decide : (2 : Int) ≤ 3)⟩
    · split
      · exact ⟨⟨(by decide : (0 : Int) ≤ 0), (by decide : (0 : Int) < 16)⟩, (by decide : (0 : Int) ≤ 1), (by decide : (1 : Int) ≤ 3)⟩
      · exact ⟨⟨(by decide : (0 : Int) ≤ 0), (by decide : (0 : Int) < 16)⟩, (by decide : (0 : Int) ≤ 0), (by decide : (0 : Int) ≤ 3)⟩
theorem bitV_r (b : Bool) (v : Int) (h : 0 ≤ v) : 0 ≤ bitV b v ∧ bitV b v ≤ v := by
  unfold bitV
  split <;> omega
theorem first_r (p : Pkt) : 96 ≤ firstF p ∧ firstF p < 128 := by
  have h1 : 0 ≤ (flowF p).1 ∧ (flowF p).1 ≤ 3 := by
    unfold flowF
    split
    · exact ⟨(by decide : (0 : Int) ≤ 0), (by decide : (0 : Int) ≤ 3)⟩
    · split
      · exact ⟨(by decide : (0 : Int) ≤ 1), (by decide : (1 : Int) ≤ 3)⟩
      · split
        · exact ⟨(by decide : (0 : Int) ≤ 2), (by decide : (2 : Int) ≤ 3)⟩
        · exact ⟨(by decide : (0 : Int) ≤ 3), (by decide : (3 : Int) ≤ 3)⟩
  have h2 : 0 ≤ hopF p.1.hops ∧ hopF p.1.hops ≤ 3 := by unfold hopF; split <;> (try split) <;> (try split) <;> omega
  have h3 := bitV_r (decide (p.1.nxt = 17)) 4 (by decide)
  unfold firstF
  omega
theorem isRow_app {A C : Nat → Nat → CV} {l1 l2 : List Int} {n : Nat} (hn : n = l1.length) (h1 : IsRow A l1) (h2 : IsRow C l2) : IsRow (fun k j => selC (Nat.blt k n) (A k j) (C (k - n) j)) (l1 ++ l2) :=
  isRow_sel (C := fun k j => C (k - n) j) hn h1 fun k hk => by
    show C (n + k - n) 0 = _
    rw [show n + k - n = k by omega]
    exact h2.at_ k hk
theorem isRow_2 {G : Nat → Nat → CV} {x y : Int} (h0 : G 0 0 = .int .u8 x) (h1 : G 1 0 = .int .u8 y) : IsRow G [x, y] := ⟨fun k hk => by
  rcases k with _ | _ | k
  · exact h0
  · exact h1
  · exact absurd hk (by show ¬ _ < 2; omega)⟩
theorem isRow_1 {G : Nat → Nat → CV} {x : Int} (h0 : G 0 0 = .int .u8 x) : IsRow G [x] := ⟨fun k hk => by
  rcases k with _ | k
  · exact h0
  · exact absurd hk (by show ¬ _ < 1; omega)⟩
theorem rowF_at {l : List Int} {i k : Nat} (h : i = k) : rowF eB l i 0 = .int .u8 (l.getD k default) := by subst h; rfl
theorem ids_eq {s d : Fm} (hs : FmW s) (hd : FmW d) : IntKind.i64.wrap (IntKind.i64.wrap (16 * s.id) + d.id) = 16 * s.id + d.id := by
  have h1 := hs.id
  have h2 := hd.id
  rw [IntWalk.i64_in (16 * s.id) (by omega)]
  exact IntWalk.i64_in _ (by omega)
theorem sec_eq {s d : Fm} (hs : FmW s) (hd : FmW d) (m : Bool) : IntKind.u8.wrap (IntKind.i64.wrap (IntKind.i64.wrap (IntKind.i64.wrap (bitV (IntKind.i64.wrap (IntKind.i64.wrap (16 * s.id) + d.id) != 0) 128 + bitV s.ctx 64) + IntKind.i64.wrap (16 * s.mode)) + IntKind.i64.wrap (IntKind.i64.wrap (bitV m 8 + bitV d.ctx 4) + d.mode))) = secF s d m := by
  rw [ids_eq hs hd]
  have h1 := hs.mode
  have h2 := hd.mode
  unfold secF
  have e : (16 * s.id + d.id != 0) = decide (16 * s.id + d.id ≠ 0) := by
    by_cases h : 16 * s.id + d.id = 0
    · rw [h]; rfl
    · rw [decide_eq_true h]; simp [h]
  rw [e]
  have b1 := bitV_r (decide (16 * s.id + d.id ≠ 0)) 128 (by decide)
  have b2 := bitV_r s.ctx 64 (by decide)
  have b3 := bitV_r m 8 (by decide)
  have b4 := bitV_r d.ctx 4 (by decide)
  rw [IntWalk.i64_in (16 * s.mode) (by omega), IntWalk.i64_in (bitV m 8 + bitV d.ctx 4) (by omega), IntWalk.i64_in (bitV m 8 + bitV d.ctx 4 + d.mode) (by omega), IntWalk.i64_in (bitV (decide (16 * s.id + d.id ≠ 0)) 128 + bitV s.ctx 64) (by omega),
    IntWalk.i64_in (bitV (decide (16 * s.id + d.id ≠ 0)) 128 + bitV s.ctx 64 + 16 * s.mode) (by omega), IntWalk.i64_in _ (by omega), IntWalk.u8_in _ (by omega)]
  omega
theorem u8_id {x : Int} (h : 0 ≤ x ∧ x < 256) : IntKind.u8.wrap x = x := IntWalk.u8_in _ (by omega)
set_option maxHeartbeats 8000000 in
set_option maxRecDepth 20000 in
theorem enc_true (p : Pkt) (f t : Adr) (l : List Ctx) (now : Int) (hp : PkW p) (hpl : p.2.length ≤ 140737488355328) (hl : bytesL l) (hm : mcast p.1.dst = true) : NewOk Try.prog 41 [cPk.enc p, (cE eAdr).enc f, (cE eAdr).enc t, (cSl eCtx eCtx_sz).enc l, (cI .i64).enc now] (some (encI p f t l now).1.length) (some [i64V (encI p f t l now).2]) (ents eB 5 (encI p f t l now).1) := by
  obtain ⟨W, eW⟩ : ∃ W, encI p f t l now = W := ⟨_, rfl⟩
  rw [eW]
  unfold encI joinH at eW
  have wU := uni_w p.1.src f true l now
  have hF := first_r p
  have sl1 := uni_len p.1.src f true l now
  have sl4 := inl_len p
  have wX := grp_w p.1.dst
  have sl2 := (grp_len p.1.dst).1
  have eDst : dstF p t l now = grpF p.1.dst := by unfold dstF; rw [if_pos hm]
  obtain ⟨G, eG⟩ : ∃ x, grpF p.1.dst = x := ⟨_, rfl⟩
  obtain ⟨V, eV⟩ : ∃ x, validP p = x := ⟨_, rfl⟩
  obtain ⟨Ck, eC⟩ : ∃ x, checkF f t l now = x := ⟨_, rfl⟩
  obtain ⟨F, eF⟩ : ∃ x, firstF p = x := ⟨_, rfl⟩
  obtain ⟨IL, eI⟩ : ∃ x, inlF p = x := ⟨_, rfl⟩
  obtain ⟨U, eU⟩ : ∃ x, uniF p.1.src f true l now = x := ⟨_, rfl⟩
  rw [eG] at eDst wX sl2
  rw [eV, eC, eF, eI, eU, eDst, hm] at eW
  rw [eU] at wU sl1
  rw [eF] at hF
  rw [eI] at sl4
  have eFI : (firstF p, inlF p) = (F, IL) := by rw [eF, eI]
  have hb1 : byteOk p.1.src := ⟨fun q => by have := hp.src q.1; rw [vget_lt _ q.2] at this; exact this⟩
  have hb2 : byteOk p.1.dst := ⟨fun q => by have := hp.dst q.1; rw [vget_lt _ q.2] at this; exact this⟩
  have e1 : V = false → W = ([], 1) := fun h => by rw [← eW, if_pos h]
  have e2 : V = true → ¬ Ck = 0 → W = ([], Ck) := fun h g => by rw [← eW, if_neg (by rw [h]; decide), if_pos g]
  have e3 : V = true → Ck = 0 → W = ([F, secF U.1 G.1 true] ++ (if 16 * U.1.id + G.1.id ≠ 0 then [16 * U.1.id + G.1.id] else []) ++ IL ++ U.2 ++ G.2, 0) := fun h g => by rw [← eW, if_neg (by rw [h]; decide), if_neg (fun x => x g)]
  have eI' := ids_eq wU wX
  have eS := sec_eq wU wX true
  have eF8 : IntKind.u8.wrap F = F := u8_id (by omega)
  have eI8 : IntKind.u8.wrap (IntKind.i64.wrap (IntKind.i64.wrap (16 * U.1.id) + G.1.id)) = 16 * U.1.id + G.1.id := by
    have h1 := wU.id
    have h2 := wX.id
    rw [eI']
    exact u8_id (by omega)
  clear eW eDst eF eI
  have g1 : True := trivial
  refine new_intro (wd := 1) (Q := mkQ LIh5) (by decide) tysOk (q_of LIh5_ok) mixed Try.func41 rfl _ (by show 5 ≤ _; decide) (fun i _ j _ => row_nf eB _ i j) ?_
  repeat' (first | (apply And.intro <;> intro hc <;> (first | exact Bool.noConfusion hc | (exfalso; first | exact Bool.noConfusion hc) | (simp only [decide_eq_true_eq, decide_eq_false_iff_not, Bool.not_eq_true', Bool.not_eq_false', beq_iff_eq, beq_eq_false_iff_ne, bne_iff_ne, bne_eq_false_iff_eq, Bool.true_eq_false, Bool.false_eq_true, ne_eq, not_true_eq_false] at hc <;> first | exact absurd rfl hc | (exfalso; first | exact Bool.noConfusion hc) | skip) | skip)) | (refine And.intro (by first | exact trivial | decide | omega | (dsimp only; omega) | exact fun _ _ => rfl | exact ⟨by assumption, by first | exact trivial | decide | omega | (dsimp only; omega)⟩) ?_) | (apply And.intro) | (intro s hs; (first | (have q : V = s := (hs.trans ((congrArg validP (pk_eq p _)).trans eV)).symm; clear hs; subst q) | (have q : Ck = s := (hs.trans ((congr (congr (congrArg (fun a b c => checkF a b c now) (rd_adr f)) (rd_adr t)) (toL_ctx l)).trans eC)).symm; clear hs; subst q) | (have q : s = (F, IL) := hs.trans ((congrArg (fun p => (firstF p, inlF p)) (pk_eq p _)).trans eFI); clear hs; subst q) | (clear g1; have q : U = s := (hs.trans ((congr (congr (congrArg (fun a b c => uniF a b true c now) (src_eq p.1 _)) (rd_adr f)) (toL_ctx l)).trans eU)).symm; clear hs; subst q) | (have q : s = true := hs.trans ((congrArg mcast (dst_eq p.1 _)).trans hm); clear hs; subst q) | (have q : G = s := (hs.trans ((congrArg grpF (dst_eq p.1 _)).trans eG)).symm; clear hs; subst q) | (have q := hs; dsimp only at q; clear hs; subst q) | skip)))
  all_goals first
    | (show (toL eB p.2.length _).length ≤ _; rw [toL_len]; exact hpl)
    | (show (toL eCtx l.length _).length ≤ _; rw [toL_len]; have := hl.n; omega)
    | (rw [e1 (by assumption)]
       exact ⟨⟨none, leF_tup ⟨leC_nils_os rfl, leC_int rfl, trivial⟩, rfl, rfl, (by show 0 < 1; omega)⟩⟩)
    | (rw [e2 (by assumption) (by assumption)]
       exact ⟨⟨none, leF_tup ⟨leC_nils_os rfl, leC_int rfl, trivial⟩, rfl, rfl, (by show 0 < 1; omega)⟩⟩)
    | exact Eq.mp (congrArg (fun p : Pkt => 0 ≤ p.1.flow) (pk_eq p _).symm) hp.flow.1
    | exact Eq.mp (congrArg (fun p : Pkt => p.1.flow < 4294967296) (pk_eq p _).symm) hp.flow.2
    | exact Eq.mp (congrArg byteOk (src_eq p.1 _).symm) hb1
    | exact Eq.mp (congrArg byteOk (dst_eq p.1 _).symm) hb2
    | exact Eq.mp (congrArg bytesL (toL_ctx l).symm) hl
    | omega
    | (dsimp only; omega)
    | skip
  · have hne : 16 * U.1.id + G.1.id ≠ 0 := by rw [← eI']; exact hc
    have e := e3 (by assumption) (by assumption)
    rw [if_pos hne] at e
    rw [e]
    refine ⟨⟨some _, leF_tup ⟨leC_os rfl ?_, leC_int rfl, trivial⟩, leN_is ?_ (isRow_sel ?_ (isRow_sel ?_ (isRow_sel ?_ (isRow_sel rfl (isRow_2 (congrArg (CV.int .u8) eF8) (congrArg (CV.int .u8) eS)) (fun k hk => ?_)) (fun k hk => rowF_at (by omega))) (fun k hk => rowF_at (by omega))) (fun k hk => rowF_at (by omega)))⟩⟩
    all_goals first
      | (obtain rfl : k = 0 := (by have hk' : k < 1 := hk; omega)
         exact congrArg (CV.int .u8) eI8)
      | (simp only [List.length_append, List.length_cons, List.length_nil]; done)
      | rfl
  · have hne : ¬ 16 * U.1.id + G.1.id ≠ 0 := fun h => h (by rw [← eI']; exact hc)
    have e := e3 (by assumption) (by assumption)
    rw [if_neg hne] at e
    rw [List.append_nil] at e
    rw [e]
    refine ⟨⟨some _, leF_tup ⟨leC_os rfl ?_, leC_int rfl, trivial⟩, leN_is ?_ (isRow_sel ?_ (isRow_sel ?_ (isRow_sel rfl (isRow_2 (congrArg (CV.int .u8) eF8) (congrArg (CV.int .u8) eS)) (fun k hk => rowF_at (by omega))) (fun k hk => rowF_at (by omega))) (fun k hk => rowF_at (by omega)))⟩⟩
    all_goals first
      | (simp only [List.length_append, List.length_cons, List.length_nil]; done)
      | rfl
set_option maxHeartbeats 8000000 in
set_option maxRecDepth 20000 in
theorem enc_false (p : Pkt) (f t : Adr) (l : List Ctx) (now : Int) (hp : PkW p) (hpl : p.2.length ≤ 140737488355328) (hl : bytesL l) (hm : mcast p.1.dst = false) : NewOk Try.prog 41 [cPk.enc p, (cE eAdr).enc f, (cE eAdr).enc t, (cSl eCtx eCtx_sz).enc l, (cI .i64).enc now] (some (encI p f t l now).1.length) (some [i64V (encI p f t l now).2]) (ents eB 5 (encI p f t l now).1) := by
  obtain ⟨W, eW⟩ : ∃ W, encI p f t l now = W := ⟨_, rfl⟩
  rw [eW]
  unfold encI joinH at eW
  have wU := uni_w p.1.src f true l now
  have hF := first_r p
  have sl1 := uni_len p.1.src f true l now
  have sl4 := inl_len p
  have wX := uni_w p.1.dst t false l now
  have sl2 := uni_len p.1.dst t false l now
  have eDst : dstF p t l now = uniF p.1.dst t false l now := by unfold dstF; rw [if_neg (by rw [hm]; decide)]
  obtain ⟨D, eG⟩ : ∃ x, uniF p.1.dst t false l now = x := ⟨_, rfl⟩
  obtain ⟨V, eV⟩ : ∃ x, validP p = x := ⟨_, rfl⟩
  obtain ⟨Ck, eC⟩ : ∃ x, checkF f t l now = x := ⟨_, rfl⟩
  obtain ⟨F, eF⟩ : ∃ x, firstF p = x := ⟨_, rfl⟩
  obtain ⟨IL, eI⟩ : ∃ x, inlF p = x := ⟨_, rfl⟩
  obtain ⟨U, eU⟩ : ∃ x, uniF p.1.src f true l now = x := ⟨_, rfl⟩
  rw [eG] at eDst wX sl2
  rw [eV, eC, eF, eI, eU, eDst, hm] at eW
  rw [eU] at wU sl1
  rw [eF] at hF
  rw [eI] at sl4
  have eFI : (firstF p, inlF p) = (F, IL) := by rw [eF, eI]
  have hb1 : byteOk p.1.src := ⟨fun q => by have := hp.src q.1; rw [vget_lt _ q.2] at this; exact this⟩
  have hb2 : byteOk p.1.dst := ⟨fun q => by have := hp.dst q.1; rw [vget_lt _ q.2] at this; exact this⟩
  have e1 : V = false → W = ([], 1) := fun h => by rw [← eW, if_pos h]
  have e2 : V = true → ¬ Ck = 0 → W = ([], Ck) := fun h g => by rw [← eW, if_neg (by rw [h]; decide), if_pos g]
  have e3 : V = true → Ck = 0 → W = ([F, secF U.1 D.1 false] ++ (if 16 * U.1.id + D.1.id ≠ 0 then [16 * U.1.id + D.1.id] else []) ++ IL ++ U.2 ++ D.2, 0) := fun h g => by rw [← eW, if_neg (by rw [h]; decide), if_neg (fun x => x g)]
  have eI' := ids_eq wU wX
  have eS := sec_eq wU wX false
  have eF8 : IntKind.u8.wrap F = F := u8_id (by omega)
  have eI8 : IntKind.u8.wrap (IntKind.i64.wrap (IntKind.i64.wrap (16 * U.1.id) + D.1.id)) = 16 * U.1.id + D.1.id := by
    have h1 := wU.id
    have h2 := wX.id
    rw [eI']
    exact u8_id (by omega)
  clear eW eDst eF eI
  have g1 : True := trivial
  refine new_intro (wd := 1) (Q := mkQ LIh5) (by decide) tysOk (q_of LIh5_ok) mixed Try.func41 rfl _ (by show 5 ≤ _; decide) (fun i _ j _ => row_nf eB _ i j) ?_
  repeat' (first | (apply And.intro <;> intro hc <;> (first | exact Bool.noConfusion hc | (exfalso; first | exact Bool.noConfusion hc) | (simp only [decide_eq_true_eq, decide_eq_false_iff_not, Bool.not_eq_true', Bool.not_eq_false', beq_iff_eq, beq_eq_false_iff_ne, bne_iff_ne, bne_eq_false_iff_eq, Bool.true_eq_false, Bool.false_eq_true, ne_eq, not_true_eq_false] at hc <;> first | exact absurd rfl hc | (exfalso; first | exact Bool.noConfusion hc) | skip) | skip)) | (refine And.intro (by first | exact trivial | decide | omega | (dsimp only; omega) | exact fun _ _ => rfl | exact ⟨by assumption, by first | exact trivial | decide | omega | (dsimp only; omega)⟩) ?_) | (apply And.intro) | (intro s hs; (first | (have q : V = s := (hs.trans ((congrArg validP (pk_eq p _)).trans eV)).symm; clear hs; subst q) | (have q : Ck = s := (hs.trans ((congr (congr (congrArg (fun a b c => checkF a b c now) (rd_adr f)) (rd_adr t)) (toL_ctx l)).trans eC)).symm; clear hs; subst q) | (have q : s = (F, IL) := hs.trans ((congrArg (fun p => (firstF p, inlF p)) (pk_eq p _)).trans eFI); clear hs; subst q) | (clear g1; have q : U = s := (hs.trans ((congr (congr (congrArg (fun a b c => uniF a b true c now) (src_eq p.1 _)) (rd_adr f)) (toL_ctx l)).trans eU)).symm; clear hs; subst q) | (have q : s = false := hs.trans ((congrArg mcast (dst_eq p.1 _)).trans hm); clear hs; subst q) | (have q : D = s := (hs.trans ((congr (congr (congrArg (fun a b c => uniF a b false c now) (dst_eq p.1 _)) (rd_adr t)) (toL_ctx l)).trans eG)).symm; clear hs; subst q) | (have q := hs; dsimp only at q; clear hs; subst q) | skip)))
  all_goals first
    | (show (toL eB p.2.length _).length ≤ _; rw [toL_len]; exact hpl)
    | (show (toL eCtx l.length _).length ≤ _; rw [toL_len]; have := hl.n; omega)
    | (rw [e1 (by assumption)]
       exact ⟨⟨none, leF_tup ⟨leC_nils_os rfl, leC_int rfl, trivial⟩, rfl, rfl, (by show 0 < 1; omega)⟩⟩)
    | (rw [e2 (by assumption) (by assumption)]
       exact ⟨⟨none, leF_tup ⟨leC_nils_os rfl, leC_int rfl, trivial⟩, rfl, rfl, (by show 0 < 1; omega)⟩⟩)
    | exact Eq.mp (congrArg (fun p : Pkt => 0 ≤ p.1.flow) (pk_eq p _).symm) hp.flow.1
    | exact Eq.mp (congrArg (fun p : Pkt => p.1.flow < 4294967296) (pk_eq p _).symm) hp.flow.2
    | exact Eq.mp (congrArg byteOk (src_eq p.1 _).symm) hb1
    | exact Eq.mp (congrArg byteOk (dst_eq p.1 _).symm) hb2
    | exact Eq.mp (congrArg bytesL (toL_ctx l).symm) hl
    | omega
    | (dsimp only; omega)
    | skip
  · have hne : 16 * U.1.id + D.1.id ≠ 0 := by rw [← eI']; exact hc
    have e := e3 (by assumption) (by assumption)
    rw [if_pos hne] at e
    rw [e]
    refine ⟨⟨some _, leF_tup ⟨leC_os rfl ?_, leC_int rfl, trivial⟩, leN_is ?_ (isRow_sel ?_ (isRow_sel ?_ (isRow_sel ?_ (isRow_sel rfl (isRow_2 (congrArg (CV.int .u8) eF8) (congrArg (CV.int .u8) eS)) (fun k hk => ?_)) (fun k hk => rowF_at (by omega))) (fun k hk => rowF_at (by omega))) (fun k hk => rowF_at (by omega)))⟩⟩
    all_goals first
      | (obtain rfl : k = 0 := (by have hk' : k < 1 := hk; omega)
         exact congrArg (CV.int .u8) eI8)
      | (simp only [List.length_append, List.length_cons, List.length_nil]; done)
      | rfl
  · have hne : ¬ 16 * U.1.id + D.1.id ≠ 0 := fun h => h (by rw [← eI']; exact hc)
    have e := e3 (by assumption) (by assumption)
    rw [if_neg hne] at e
    rw [List.append_nil] at e
    rw [e]
    refine ⟨⟨some _, leF_tup ⟨leC_os rfl ?_, leC_int rfl, trivial⟩, leN_is ?_ (isRow_sel ?_ (isRow_sel ?_ (isRow_sel rfl (isRow_2 (congrArg (CV.int .u8) eF8) (congrArg (CV.int .u8) eS)) (fun k hk => rowF_at (by omega))) (fun k hk => rowF_at (by omega))) (fun k hk => rowF_at (by omega)))⟩⟩
    all_goals first
      | (simp only [List.length_append, List.length_cons, List.length_nil]; done)
      | rfl
theorem encode_ok (p : Pkt) (f t : Adr) (l : List Ctx) (now : Int) (hp : PkW p) (hpl : p.2.length ≤ 140737488355328) (hl : bytesL l) : NewOk Try.prog 41 [cPk.enc p, (cE eAdr).enc f, (cE eAdr).enc t, (cSl eCtx eCtx_sz).enc l, (cI .i64).enc now] (some (encI p f t l now).1.length) (some [i64V (encI p f t l now).2]) (ents eB 5 (encI p f t l now).1) := by
  cases hm : mcast p.1.dst with
  | true => exact enc_true p f t l now hp hpl hl hm
  | false => exact enc_false p f t l now hp hpl hl hm
abbrev enIE : Entry := newE (AC.cons cPk (AC.cons (cE eAdr) (AC.cons (cE eAdr) (AC.cons (cSl eCtx eCtx_sz) (AC.cons (cI .i64) AC.nil))))) (fun a => PkW a.1 ∧ a.1.2.length ≤ 140737488355328 ∧ bytesL a.2.2.2.1) (fun a => encI a.1 a.2.1 a.2.2.1 a.2.2.2.1 a.2.2.2.2.1) (fun s => some s.1.length) (fun s => some [i64V s.2]) (fun s => ents eB 5 s.1)
theorem enIE_ok : EntOk Try.prog 41 enIE := newE_ok ⟨_, Try.func41, rfl, by kernel_rfl⟩ (fun s l h x hx => by injection h with h; subst h; obtain rfl := List.mem_singleton.1 hx; exact nfE_c nf_int) fun a h => encode_ok a.1 a.2.1 a.2.2.1 a.2.2.2.1 a.2.2.2.2.1 h.1 h.2.1 h.2.2
end Go.Proofs.Ytjknkfjhcapocaa.AX
/- Addresses of the reference by AX2: Split, Join, LinkLocal. -/
namespace Go.Proofs.Ytjknkfjhcapocaa.AX
open Go.RowKit
set_option linter.unusedVariables false
set_option linter.unusedSimpArgs false
theorem split_step {l : List Int} (hl : BL l) {i : Nat} (hi : i < l.length) (h8 : i < 8) {v : Int} (hv : v = l.getD i default) : IntKind.u64.wrap (shlI .u64 (beVal (l.take i)) 8 + IntKind.u64.wrap v) = beVal (l.take (i + 1)) := by
  have hb := beVal_lt (l.take i) (hl.take i)
  have hp := pow256_le (show (l.take i).length ≤ 7 by simp; omega)
  have hx := hl.get i
  rw [hv, shl8 _ ⟨hb.1, by omega⟩, show IntKind.u64.wrap (l.getD i default) = l.getD i default from IntWalk.u64_in _ (by omega), IntWalk.u64_in _ (by omega), take_snocI hi, beVal_snoc]
set_option maxRecDepth 20000 in
theorem rsplit_ok (a : Fin 16 → Int) (ha : byteOk a) : PureOk Try.prog 87 [(cE (eA .u8 16)).enc a] (encUU (splF a)) := by
  have hA := ipBL ha
  have hD := (ipBL ha).drop 8
  refine pure_intro (wd := 1) (Q := mkQ LE0) (by decide) tysOk (q_of LE0_ok) mixed Try.func87 rfl _ (by show 1 ≤ _; decide) _ ?_
  refine loop_intro (mono_of LE0_ok) (fun s : {i : Nat // i ≤ 8} => (⟨[(1, one (.ptr 0 0 0 false)), (4, one (.int .u64 (beVal ((ipL a).take s.1)))), (5, one (.int .u64 (beVal (((ipL a).drop 8).take s.1)))), (6, one (.int .i64 (s.1 : Int)))], [(0, some ⟨24, 1, 16, true, fun _ => (eA .u8 16).cell a⟩)], 6⟩ : Hd)) (fun s => 8 - s.1) (fun _ => rfl) ?_ ⟨0, by omega⟩ [] ?_
  · rintro ⟨i, hi⟩
    dsimp only at hi ⊢
    have h8 : IntKind.i64.wrap (8 + (i : Int)) = 8 + i := IntWalk.i64_in _ (by omega)
    repeat' (first | (apply And.intro <;> intro hc <;> (first | exact Bool.noConfusion hc | (simp only [decide_eq_true_eq, decide_eq_false_iff_not, Bool.not_eq_true', Bool.not_eq_false', beq_iff_eq, beq_eq_false_iff_ne, bne_iff_ne, bne_eq_false_iff_eq, Bool.true_eq_false, Bool.false_eq_true] at hc) | skip)) | (refine And.intro (by first | exact trivial | decide | omega | (dsimp only; omega) | exact fun _ _ => rfl) ?_) | (apply And.intro) | (intro s hs))
    all_goals first
      | (refine ⟨⟨i + 1, by omega⟩, [], by dsimp only; omega, rfl, ?_, ?_⟩
         · repeat' (first | exact trivial | exact rfl | exact leF_ptr rfl | exact leF_int rfl | exact leF_bool rfl | exact leF_cl (cl_slB _ _) | exact leF_cl (cl_slR _ _) | exact leF_cl (cl_ll _ _) | exact leF_c (leC_os rfl rfl) | refine leF_int ?_ | refine leF_bool ?_ | exact leN_varA (fun _ _ => (Elem.flat _ _ _).le) | exact leN_varA (fun _ _ => leC_top) | apply And.intro)
           · exact split_step hA (by rw [ipL_len]; omega) (by omega) (by rw [ipL_get a (by omega)]; exact congrArg (vget a) (by omega))
           · exact split_step hD (by rw [List.length_drop, ipL_len]; omega) (by omega) (by rw [getD_dropI, ipL_get a (by omega)]; exact congrArg (vget a) (by rw [h8]; omega))
           · first | (dsimp only; rw [IntWalk.i64_in _ (by omega)]; omega) | (dsimp only; rw [IntWalk.i64_in _ (by omega)]; done) | (dsimp only; exact IntWalk.i64_in _ (by omega)) | exact IntWalk.i64_in _ (by omega) | (rw [IntWalk.i64_in _ (by omega)]; omega)
         · repeat' (first | exact trivial | exact rfl | exact leF_ptr rfl | exact leF_int rfl | exact leF_bool rfl | exact leF_cl (cl_slB _ _) | exact leF_cl (cl_slR _ _) | exact leF_cl (cl_ll _ _) | exact leF_c (leC_os rfl rfl) | refine leF_int ?_ | refine leF_bool ?_ | exact leN_varA (fun _ _ => (Elem.flat _ _ _).le) | exact leN_varA (fun _ _ => leC_top) | apply And.intro)
           done)
      | skip
    · have h8' : i = 8 := by omega
      subst h8'
      refine Done.mk (leF_tup ⟨leC_int rfl, leC_int ?_, trivial⟩)
      show beVal (((ipL a).drop 8).take 8) = beVal ((ipL a).drop 8)
      rw [List.take_of_length_le (by rw [List.length_drop, ipL_len]; decide)]
  · refine ⟨rfl, ?_, ?_⟩
    · repeat' (first | exact trivial | exact rfl | exact leF_ptr rfl | exact leF_int rfl | exact leF_bool rfl | exact leF_cl (cl_slB _ _) | exact leF_cl (cl_slR _ _) | exact leF_cl (cl_ll _ _) | exact leF_c (leC_os rfl rfl) | refine leF_int ?_ | refine leF_bool ?_ | exact leN_varA (fun _ _ => (Elem.flat _ _ _).le) | exact leN_varA (fun _ _ => leC_top) | apply And.intro)
    · repeat' (first | exact trivial | exact rfl | exact leF_ptr rfl | exact leF_int rfl | exact leF_bool rfl | exact leF_cl (cl_slB _ _) | exact leF_cl (cl_slR _ _) | exact leF_cl (cl_ll _ _) | exact leF_c (leC_os rfl rfl) | refine leF_int ?_ | refine leF_bool ?_ | exact leN_varA (fun _ _ => (Elem.flat _ _ _).le) | exact leN_varA (fun _ _ => leC_top) | apply And.intro)
def LRa0 : CsL := (87, some (pureE aIp (fun a => byteOk a.1) (fun a => splF a.1) encUU)) :: LT2
theorem LRa0_ok : AllOk Try.prog LRa0 := ⟨pureE_ok ⟨_, Try.func87, rfl, by kernel_rfl⟩ fun a h => rsplit_ok a.1 h, LT2_ok⟩
theorem pfx_ip (p : Pfx) : ((eA .u8 16).rd fun q => ePfx.cell p (0 + 0 + q)) = p.ip := by
  funext q
  show valI (ePfx.cell p (0 + 0 + q.1)) = p.ip q
  rw [show 0 + 0 + q.1 = 0 + q.1 by omega, ePfx_ip_at _ _ q.2]
  exact vget_lt _ q.2
set_option maxRecDepth 20000 in
set_option maxHeartbeats 4000000 in
theorem rjoin_ok (p : Pfx) (y : Int) (hp : byteOk p.ip) : PureOk Try.prog 47 [(cE ePfx).enc p, (cI .u64).enc y] (encIpB (joinF p y)) := by
  have hO := of_hi hp y
  obtain ⟨J, eJ⟩ : ∃ J, joinF p y = J := ⟨_, rfl⟩
  rw [eJ]
  unfold joinF at eJ
  obtain ⟨K, eK⟩ : ∃ K, jn p.ip y = K := ⟨_, rfl⟩
  rw [eK] at eJ hO
  obtain ⟨Hi, eHi⟩ : ∃ x, hiF p.ip = x := ⟨_, rfl⟩
  rw [eHi] at hO
  have eS : splF p.ip = (Hi, loF p.ip) := by unfold splF; rw [eHi]
  obtain ⟨V, eV⟩ : ∃ x, vpf p = x := ⟨_, rfl⟩
  rw [eV] at eJ
  refine pure_intro (wd := 1) (Q := mkQ LRa0) (by decide) tysOk (q_of LRa0_ok) mixed Try.func47 rfl _ (by show 2 ≤ _; decide) _ ?_
  repeat' (first | (apply And.intro <;> intro hc <;> (first | exact Bool.noConfusion hc | (simp only [decide_eq_true_eq, decide_eq_false_iff_not, Bool.not_eq_true', Bool.not_eq_false', beq_iff_eq, beq_eq_false_iff_ne, bne_iff_ne, bne_eq_false_iff_eq, Bool.true_eq_false, Bool.false_eq_true, ne_eq, not_true_eq_false] at hc <;> first | exact absurd rfl hc | skip) | skip)) | (refine And.intro (by first | exact trivial | decide | omega | (dsimp only; omega) | exact fun _ _ => rfl | exact ⟨by assumption, by first | exact trivial | decide | omega | (dsimp only; omega)⟩) ?_) | (apply And.intro) | (intro s hs; (first | (have q : V = s := (hs.trans ((congrArg vpf (rd_pfx p)).trans eV)).symm; clear hs; subst q) | (have q : s = (Hi, loF p.ip) := hs.trans ((congrArg splF (pfx_ip p)).trans eS); clear hs; subst q) | (have q : K = s := (hs.trans hO).symm; clear hs; subst q))))
  all_goals first
    | exact Eq.mp (congrArg (fun p : Pfx => byteOk p.ip) (rd_pfx p).symm) hp
    | exact Eq.mp (congrArg byteOk (pfx_ip p).symm) hp
    | (have e : J = (zeroA, false) := by rw [← eJ]; exact if_neg (fun h => Bool.noConfusion (h.1.symm.trans (by assumption)))
       rw [e]
       exact Done.mk (leF_tup ⟨leE_all (by repeat' (first | exact trivial | exact rfl | exact leC_int rfl | exact leC_bool rfl | refine leE_all ?_ | exact leC_bool (by assumption) | apply And.intro)), leC_bool rfl, trivial⟩))
    | (have e : J = (zeroA, false) := by rw [← eJ]; exact if_neg (fun h => by have := h.2; omega)
       rw [e]
       exact Done.mk (leF_tup ⟨leE_all (by repeat' (first | exact trivial | exact rfl | exact leC_int rfl | exact leC_bool rfl | refine leE_all ?_ | exact leC_bool (by assumption) | apply And.intro)), leC_bool rfl, trivial⟩))
    | (have e : J = (K, true) := by rw [← eJ]; exact if_pos ⟨by assumption, by omega⟩
       rw [e]
       exact Done.mk (leF_tup ⟨leE_all (by repeat' (first | exact trivial | exact rfl | exact leC_int rfl | exact leC_bool rfl | refine leE_all ?_ | exact leC_bool (by assumption) | apply And.intro)), leC_bool rfl, trivial⟩))
    | skip
def linkF (a : Adr) : (Fin 16 → Int) × Bool := if (iidF a).2 = true then (jn llP.ip (iidF a).1, true) else (zeroA, false)
set_option maxRecDepth 20000 in
set_option maxHeartbeats 4000000 in
theorem rlink_ok (a : Adr) : PureOk Try.prog 44 [(cE eAdr).enc a] (encIpB (linkF a)) := by
  obtain ⟨J, eJ⟩ : ∃ J, linkF a = J := ⟨_, rfl⟩
  rw [eJ]
  unfold linkF at eJ
  obtain ⟨I, eI⟩ : ∃ x, iidF a = x := ⟨_, rfl⟩
  rw [eI] at eJ
  have hO := llP_of I.1
  obtain ⟨K, eK⟩ : ∃ K, jn llP.ip I.1 = K := ⟨_, rfl⟩
  rw [eK] at eJ hO
  refine pure_intro (wd := 1) (Q := mkQ LRa0) (by decide) tysOk (q_of LRa0_ok) mixed Try.func44 rfl _ (by show 1 ≤ _; decide) _ ?_
  repeat' (first | (apply And.intro <;> intro hc <;> (first | exact Bool.noConfusion hc | (simp only [decide_eq_true_eq, decide_eq_false_iff_not, Bool.not_eq_true', Bool.not_eq_false', beq_iff_eq, beq_eq_false_iff_ne, bne_iff_ne, bne_eq_false_iff_eq, Bool.true_eq_false, Bool.false_eq_true, ne_eq, not_true_eq_false] at hc <;> first | exact absurd rfl hc | skip) | skip)) | (refine And.intro (by first | exact trivial | decide | omega | (dsimp only; omega) | exact fun _ _ => rfl | exact ⟨by assumption, by first | exact trivial | decide | omega | (dsimp only; omega)⟩) ?_) | (apply And.intro) | (intro s hs; (first | (have q : I = s := (hs.trans ((congrArg iidF (rd_adr a)).trans eI)).symm; clear hs; subst q) | (have q : K = s := (hs.trans hO).symm; clear hs; subst q))))
  all_goals first
    | (have e : J = (zeroA, false) := by rw [← eJ]; exact if_neg (fun h => Bool.noConfusion (h.symm.trans (by assumption : I.2 = false)))
       rw [e]
       exact Done.mk (leF_tup ⟨leE_all (by repeat' (first | exact trivial | exact rfl | exact leC_int rfl | exact leC_bool rfl | refine leE_all ?_ | exact leC_bool (by assumption) | apply And.intro)), leC_bool rfl, trivial⟩))
    | (have e : J = (K, true) := by rw [← eJ]; exact if_pos (by assumption)
       rw [e]
       exact Done.mk (leF_tup ⟨leE_all (by repeat' (first | exact trivial | exact rfl | exact leC_int rfl | exact leC_bool rfl | refine leE_all ?_ | exact leC_bool (by assumption) | apply And.intro)), leC_bool rfl, trivial⟩))
    | skip
def LRa : CsL := (44, some (pureE (AC.cons (cE eAdr) AC.nil) (fun _ => True) (fun a => linkF a.1) encIpB)) ::
  (47, some (pureE (AC.cons (cE ePfx) (AC.cons (cI .u64) AC.nil)) (fun a => byteOk a.1.ip) (fun a => joinF a.1 a.2.1) encIpB)) :: LRa0
theorem LRa_ok : AllOk Try.prog LRa := ⟨pureE_ok ⟨_, Try.func44, rfl, by kernel_rfl⟩ fun a _ => rlink_ok a.1, pureE_ok ⟨_, Try.func47, rfl, by kernel_rfl⟩ fun a h => rjoin_ok a.1 a.2.1 h, LRa0_ok⟩
end Go.Proofs.Ytjknkfjhcapocaa.AX
/- What the makers draw from a tape: valid link addresses; contexts. -/
namespace Go.Proofs.Ytjknkfjhcapocaa.AX
open Go.RowKit
set_option linter.unusedVariables false
set_option linter.unusedSimpArgs false
structure AdrW (a : Adr) : Prop where
  v : adrValid a = true
  short : 0 ≤ a.short ∧ a.short < 65536
  eui : 0 ≤ a.eui ∧ a.eui < 18446744073709551616
structure DevW (a : Adr) : Prop where
  s : adrSome a = true
  w : AdrW a
theorem wr16 (z : Int) : 0 ≤ IntKind.u16.wrap z ∧ IntKind.u16.wrap z < 65536 := by
  simp only [IntKind.wrap, IntKind.signed, IntKind.bits]
  constructor
  · exact Int.emod_nonneg _ (by decide)
  · exact Int.emod_lt_of_pos _ (by decide)
theorem wr64 (z : Int) : 0 ≤ IntKind.u64.wrap z ∧ IntKind.u64.wrap z < 18446744073709551616 := by
  simp only [IntKind.wrap, IntKind.signed, IntKind.bits]
  constructor
  · exact Int.emod_nonneg _ (by decide)
  · exact Int.emod_lt_of_pos _ (by decide)
theorem z16 : (0 : Int) ≤ 0 ∧ (0 : Int) < 65536 := by decide
theorem z64 : (0 : Int) ≤ 0 ∧ (0 : Int) < 18446744073709551616 := by decide
theorem dev_3 {e : Int} (h : 0 ≤ e ∧ e < 18446744073709551616) : DevW ⟨3, 0, e⟩ := ⟨rfl, rfl, z16, h⟩
theorem dev_2 {e : Int} (h : 0 ≤ e ∧ e < 65536) : DevW ⟨2, e, 0⟩ := ⟨rfl, rfl, h, z64⟩
set_option maxRecDepth 10000 in
theorem device2_ok (n : Nat) (l : List Int) (q : Int) (ht : TapeOk n (rI l) q) :
    ∃ (r : Adr) (q' : Int), DevW r ∧ TapeOk n (rI l) q' ∧ MethOk Try.prog 42 [] (tapeN n (rI l) q) ((cE eAdr).enc r) (tapeN n (rI l) q') := by
  refine tape_intro (wd := 1) (Q := mkQ LT1) (by decide) tysOk (q_of LT1_ok) mixed Try.func42 rfl _ (by show 0 + 1 ≤ _; decide) (nff_elem eAdr) ?_
  repeat' (first | (apply And.intro <;> intro hc <;> (first | exact Bool.noConfusion hc | (simp only [decide_eq_true_eq, decide_eq_false_iff_not, Bool.not_eq_true', Bool.not_eq_false', beq_iff_eq, beq_eq_false_iff_ne, bne_iff_ne, bne_eq_false_iff_eq, Bool.true_eq_false, Bool.false_eq_true] at hc) | skip)) | (refine And.intro (by first | exact trivial | decide | omega | (dsimp only; omega) | exact fun _ _ => rfl | exact ⟨by assumption, by first | exact trivial | decide | omega | (dsimp only; omega)⟩) ?_) | (apply And.intro) | (intro s hs))
  · exact ⟨(⟨3, 0, _⟩, _), ⟨dev_3 (wr64 _), by assumption⟩, ⟨leF_e (leE_all ⟨⟨⟨trivial, leC_int rfl⟩, leC_int rfl⟩, leC_int rfl⟩), tapeN_le⟩⟩
  · exact ⟨(⟨2, _, 0⟩, _), ⟨dev_2 (wr16 _), by assumption⟩, ⟨leF_e (leE_all ⟨⟨⟨trivial, leC_int rfl⟩, leC_int rfl⟩, leC_int rfl⟩), tapeN_le⟩⟩
abbrev dev2E : Entry := tapeE AC.nil (fun _ => True) (fun a (r : Adr) => DevW r) (cE eAdr).enc
def LT3 : CsL := (42, some dev2E) :: LT2
theorem LT3_ok : AllOk Try.prog LT3 := ⟨tapeE_ok ⟨_, Try.func42, rfl, by kernel_rfl⟩ fun n l q a ht hp => device2_ok n l q ht, LT2_ok⟩
theorem addr2_ok (n : Nat) (l : List Int) (q : Int) (ht : TapeOk n (rI l) q) :
    ∃ (r : Adr) (q' : Int), AdrW r ∧ TapeOk n (rI l) q' ∧ MethOk Try.prog 34 [] (tapeN n (rI l) q) ((cE eAdr).enc r) (tapeN n (rI l) q') := by
  refine tape_intro (wd := 1) (Q := mkQ LT3) (by decide) tysOk (q_of LT3_ok) mixed Try.func34 rfl _ (by show 0 + 1 ≤ _; decide) (nff_elem eAdr) ?_
  repeat' (first | (apply And.intro <;> intro hc <;> (first | exact Bool.noConfusion hc | (simp only [decide_eq_true_eq, decide_eq_false_iff_not, Bool.not_eq_true', Bool.not_eq_false', beq_iff_eq, beq_eq_false_iff_ne, bne_iff_ne, bne_eq_false_iff_eq, Bool.true_eq_false, Bool.false_eq_true] at hc) | skip)) | (refine And.intro (by first | exact trivial | decide | omega | (dsimp only; omega) | exact fun _ _ => rfl | exact ⟨by assumption, by first | exact trivial | decide | omega | (dsimp only; omega)⟩) ?_) | (apply And.intro) | (intro s hs))
  · exact ⟨(⟨2, 65535, 0⟩, _), ⟨(dev_2 (e := 65535) (by decide)).w, by assumption⟩, ⟨leF_e (leE_all ⟨⟨⟨trivial, leC_int rfl⟩, leC_int rfl⟩, leC_int rfl⟩), tapeN_le⟩⟩
  · exact ⟨(⟨0, 0, 0⟩, _), ⟨⟨rfl, z16, z64⟩, by assumption⟩, ⟨leF_e (leE_all ⟨⟨⟨trivial, leC_int rfl⟩, leC_int rfl⟩, leC_int rfl⟩), tapeN_le⟩⟩
  · rename_i r hr
    exact ⟨(r, _), ⟨hr.w, by assumption⟩, ⟨leF_e (leE_all ⟨⟨⟨trivial, leC_int rfl⟩, leC_int rfl⟩, leC_int rfl⟩), tapeN_le⟩⟩
abbrev addr2E : Entry := tapeE AC.nil (fun _ => True) (fun a (r : Adr) => AdrW r) (cE eAdr).enc
theorem valid_snoc {x : Ctx} (h1 : vpf (pfxOf x) = true) (h2 : vt x.til = true) (h3 : x.id < 16) : ∀ (L : List Ctx) (b : Int), validFrom b L = true → (∀ c ∈ L, c.id < x.id) → b < x.id → validFrom b (L ++ [x]) = true := by
  intro L
  induction L with
  | nil => intro b _ _ hb; simp [validFrom, h1, h2, h3, hb]
  | cons c L ih =>
    intro b hv hid hb
    simp only [List.cons_append, validFrom, Bool.and_eq_true] at hv ⊢
    exact ⟨hv.1, ih c.id hv.2 (fun d hd => hid d (List.mem_cons_of_mem _ hd)) (hid c (List.mem_cons_self ..))⟩
structure madeL (L : List Ctx) : Prop where
  v : validT L = true
  n : L.length ≤ 16
  b : ∀ c ∈ L, byteOk c.ip
structure CtxS (n : Nat) (l : List Int) where
  i : Nat
  L : List Ctx
  q : Int
  hi : i ≤ 16
  hv : validT L = true
  hid : ∀ c ∈ L, c.id < i
  hn : L.length ≤ i
  hb : ∀ c ∈ L, byteOk c.ip
  ht : TapeOk n (rI l) q
theorem nff_slR {L : List Ctx} : NFF (.e (.c (slR eCtx L))) := nff_c (nf_sl fun i _ j _ => (eCtx.flat _ _).nf)
set_option maxRecDepth 10000 in
theorem contexts_ok (n : Nat) (l : List Int) (q : Int) (ht : TapeOk n (rI l) q) :
    ∃ (r : List Ctx) (q' : Int), madeL r ∧ TapeOk n (rI l) q' ∧ MethOk Try.prog 35 [] (tapeN n (rI l) q) (.e (.c (slR eCtx r))) (tapeN n (rI l) q') := by
  refine tape_intro (enc := fun r => .e (.c (slR eCtx r))) (wd := 1) (Q := mkQ LT2) (by decide) tysOk (q_of LT2_ok) mixed Try.func35 rfl _ (by show 0 + 1 ≤ _; decide) (fun _ => nff_slR) ?_
  refine loop_intro (mono_of LT2_ok) (fun s : CtxS n l => (⟨[(0, one (.ptr 0 0 0 false)), (3, one (.os 7 0 s.L.length)), (4, one (.int .i64 (s.i : Int)))],
    [(0, some (tapeN n (rI l) s.q)), (7, some (ents eCtx 82 s.L))], 8⟩ : Hd)) (fun s => 16 - s.i) (fun _ => rfl) ?_ ⟨0, [], q, by omega, rfl, by simp, by simp, by simp, ht⟩ [(7, none)] ?_
  · rintro ⟨i, L, q1, hi, hv, hid, hn, hb, ht1⟩
    dsimp only at hi hv hid hn hb ⊢
    repeat' (first | (apply And.intro <;> intro hc <;> (first | exact Bool.noConfusion hc | (simp only [decide_eq_true_eq, decide_eq_false_iff_not, Bool.not_eq_true', Bool.not_eq_false', beq_iff_eq, beq_eq_false_iff_ne, bne_iff_ne, bne_eq_false_iff_eq, Bool.true_eq_false, Bool.false_eq_true] at hc) | skip)) | (refine And.intro (by first | exact trivial | decide | omega | (dsimp only; omega) | exact fun _ _ => rfl | exact ⟨by assumption, by first | exact trivial | decide | omega | (dsimp only; omega)⟩) ?_) | (apply And.intro) | (intro s hs))
    · rename_i sb hsb sq1 hsq1 p hp sq2 hsq2 v hv' sq3 hsq3 u hu
      have hu' : 0 ≤ u ∧ u < 50 := hu
      refine ⟨⟨i + 1, L ++ [⟨i, p.ip, p.bits, decide (0 < v), u⟩], _, by omega, ?_, ?_, by simp; omega, ?_, hs⟩, [(7, some 23)], by dsimp only; omega, rfl, ?_, ?_⟩
      · refine valid_snoc ?_ ?_ ?_ L (-1) hv hid ?_
        · exact hp.1
        · simp [vt]; omega
        · show (i : Int) < 16; omega
        · show (-1 : Int) < i; omega
      · intro c hc
        rcases List.mem_append.1 hc with h | h
        · have := hid c h; omega
        · rw [List.mem_singleton.1 h]; show (i : Int) < ((i + 1 : Nat) : Int); omega
      · intro c hc
        rcases List.mem_append.1 hc with h | h
        · exact hb c h
        · rw [List.mem_singleton.1 h]; exact hp.2
      · repeat' (first | exact trivial | exact rfl | exact leF_ptr rfl | exact leF_int rfl | exact leF_bool rfl | exact leF_cl (cl_slB _ _) | exact leF_cl (cl_slR _ _) | exact leF_cl (cl_ll _ _) | exact leF_c (leC_os rfl rfl) | refine leF_int ?_ | refine leF_bool ?_ | exact leN_varA (fun _ _ => (Elem.flat _ _ _).le) | exact leN_varA (fun _ _ => leC_top) | apply And.intro)
        · exact leF_c (leC_os rfl (by simp))
        · refine (IntWalk.i64_in _ ?_).trans ?_
          · constructor <;> omega
          · dsimp only
            omega
      · repeat' (first | exact trivial | exact rfl | exact leF_ptr rfl | exact leF_int rfl | exact leF_bool rfl | exact leF_cl (cl_slB _ _) | exact leF_cl (cl_slR _ _) | exact leF_cl (cl_ll _ _) | exact leF_c (leC_os rfl rfl) | refine leF_int ?_ | refine leF_bool ?_ | exact leN_varA (fun _ _ => (Elem.flat _ _ _).le) | exact leN_varA (fun _ _ => leC_top) | apply And.intro)
        · exact tapeN_le
        · (change LeN _ _ _; refine leN_snoc (E := eCtx) (L := L) (x := ⟨i, p.ip, p.bits, decide (0 < v), u⟩) rfl (fun i hi j hj => selC_in (Nat.ble_eq_true_of_le hi) (Elem.flat _ _ _).le) ?_; repeat' (first | exact trivial | (refine selC_out (blt_self _) ?_; rw [Nat.sub_self]; first | exact leC_int rfl | exact leC_bool rfl | exact leC_bool (by assumption)) | apply And.intro))
    · refine ⟨⟨i + 1, L, _, by omega, hv, fun c hc => by have := hid c hc; omega, by omega, hb, hs⟩, [], by dsimp only; omega, rfl, ?_, ?_⟩
      · repeat' (first | exact trivial | exact rfl | exact leF_ptr rfl | exact leF_int rfl | exact leF_bool rfl | exact leF_cl (cl_slB _ _) | exact leF_cl (cl_slR _ _) | exact leF_cl (cl_ll _ _) | exact leF_c (leC_os rfl rfl) | refine leF_int ?_ | refine leF_bool ?_ | exact leN_varA (fun _ _ => (Elem.flat _ _ _).le) | exact leN_varA (fun _ _ => leC_top) | apply And.intro)
        refine (IntWalk.i64_in _ ?_).trans ?_
        · constructor <;> omega
        · dsimp only
          omega
      · repeat' (first | exact trivial | exact rfl | exact leF_ptr rfl | exact leF_int rfl | exact leF_bool rfl | exact leF_cl (cl_slB _ _) | exact leF_cl (cl_slR _ _) | exact leF_cl (cl_ll _ _) | exact leF_c (leC_os rfl rfl) | refine leF_int ?_ | refine leF_bool ?_ | exact leN_varA (fun _ _ => (Elem.flat _ _ _).le) | exact leN_varA (fun _ _ => leC_top) | apply And.intro)
        · exact tapeN_le
        · exact leN_ents
    · exact ⟨(L, q1), ⟨⟨hv, (show L.length ≤ 16 by omega), hb⟩, ht1⟩, ⟨leF_c (leC_row_fin rfl rfl), tapeN_le⟩⟩
  · refine ⟨rfl, ?_, ?_⟩
    · repeat' (first | exact trivial | exact rfl | exact leF_ptr rfl | exact leF_int rfl | exact leF_bool rfl | exact leF_cl (cl_slB _ _) | exact leF_cl (cl_slR _ _) | exact leF_cl (cl_ll _ _) | exact leF_c (leC_os rfl rfl) | refine leF_int ?_ | refine leF_bool ?_ | exact leN_varA (fun _ _ => (Elem.flat _ _ _).le) | exact leN_varA (fun _ _ => leC_top) | apply And.intro)
      exact leF_c (leC_nils_os rfl)
    · repeat' (first | exact trivial | exact rfl | exact leF_ptr rfl | exact leF_int rfl | exact leF_bool rfl | exact leF_cl (cl_slB _ _) | exact leF_cl (cl_slR _ _) | exact leF_cl (cl_ll _ _) | exact leF_c (leC_os rfl rfl) | refine leF_int ?_ | refine leF_bool ?_ | exact leN_varA (fun _ _ => (Elem.flat _ _ _).le) | exact leN_varA (fun _ _ => leC_top) | apply And.intro)
      · exact tapeN_le
      · exact eCtx_sz
abbrev ctxsE : Entry := tapeE AC.nil (fun _ => True) (fun a (r : List Ctx) => madeL r) (fun r => .e (.c (slR eCtx r)))
def LT4 : CsL := (34, some addr2E) :: (35, some ctxsE) :: LT3
theorem LT4_ok : AllOk Try.prog LT4 := ⟨tapeE_ok ⟨_, Try.func34, rfl, by kernel_rfl⟩ fun n l q a ht hp => addr2_ok n l q ht, tapeE_ok ⟨_, Try.func35, rfl, by kernel_rfl⟩ fun n l q a ht hp => contexts_ok n l q ht, LT3_ok⟩
end Go.Proofs.Ytjknkfjhcapocaa.AX
/- Layer 13 by AX2: encode and Encode of the reference. -/
namespace Go.Proofs.Ytjknkfjhcapocaa.AX
open Go.RowKit
set_option linter.unusedVariables false
set_option linter.unusedSimpArgs false
theorem encB_up (p : Pkt) (s : Int) : encB p s = ((((beB (1610612736 + p.1.cls * 1048576 + p.1.flow) 4 ++ beB (sizeP p - 40) 2) ++ [p.1.nxt, p.1.hops]) ++ ipL p.1.src) ++ ipL p.1.dst) ++ upB p s := by
  unfold encB upB encU
  rw [List.append_assoc _ _ p.2]
set_option maxHeartbeats 8000000 in
set_option maxRecDepth 20000 in
theorem rencode_ok (p : Pkt) (s0 : Int) (hp : PkW p) (hl : p.2.length ≤ 70368744170000) (hs0 : 0 ≤ s0 ∧ s0 < 65536) : NewOk Try.prog 64 [cPk.enc p, (cI .u16).enc s0] (some (encB p s0).length) none (ents eB 5 (encB p s0)) := by
  obtain ⟨w, eW⟩ : ∃ w, encB p s0 = w := ⟨_, rfl⟩
  rw [eW]
  have c1 := hp.cls
  have c2 := hp.flow
  have w1 : IntKind.u64.wrap p.1.cls = p.1.cls := IntWalk.u64_in _ (by omega)
  have w2 : shlI .u64 (IntKind.u64.wrap p.1.cls) 20 = p.1.cls * 1048576 := by
    rw [w1]
    unfold shlI
    rw [show min (20 : Int).toNat (IntKind.bits .u64) = 20 from rfl]
    exact IntWalk.u64_in _ (by omega)
  have w3 : IntKind.u64.wrap (IntKind.u64.wrap (1610612736 + shlI .u64 (IntKind.u64.wrap p.1.cls) 20) + IntKind.u64.wrap p.1.flow) = 1610612736 + p.1.cls * 1048576 + p.1.flow := by
    rw [w2, IntWalk.u64_in p.1.flow (by omega), IntWalk.u64_in (1610612736 + p.1.cls * 1048576) (by omega)]
    exact IntWalk.u64_in _ (by omega)
  have w4 := wlen (p := p) (by omega)
  refine new_intro (wd := 1) (Q := mkQ LRp2) (by decide) tysOk (q_of LRp2_ok) mixed Try.func64 rfl _ (by show 2 ≤ _; decide) (fun i _ j _ => row_nf eB _ i j) ?_
  repeat' (first | (apply And.intro <;> intro hc <;> (first | exact Bool.noConfusion hc | (simp only [decide_eq_true_eq, decide_eq_false_iff_not, Bool.not_eq_true', Bool.not_eq_false', beq_iff_eq, beq_eq_false_iff_ne, bne_iff_ne, bne_eq_false_iff_eq, Bool.true_eq_false, Bool.false_eq_true, ne_eq, not_true_eq_false] at hc <;> first | exact absurd rfl hc | skip) | skip)) | (refine And.intro (by first | exact trivial | decide | omega | (dsimp only; omega) | exact fun _ _ => rfl | exact ⟨by assumption, by first | exact trivial | decide | omega | (dsimp only; omega)⟩) ?_) | (apply And.intro) | (intro s hs; (first | (have q : s = sizeP p := hs.trans (congrArg sizeP (pk_eq p _)); clear hs; subst q) | (have hq2 : s = upB p s0 := hs.trans (congrArg (fun x => upB x s0) (pk_eq p _)); clear hs; have hun := upB_len p s0; rw [← hq2] at hun) | (dsimp only at hs; (first | rw [toL_b0] at hs | rw [toL_nil] at hs); have hln := app_le hs; try rw [List.length_nil] at hln) | skip)))
  all_goals first
    | (dsimp only; rw [toL_b]; omega)
    | (dsimp only; rw [toL_b0]; omega)
    | (dsimp only; rw [toL_nil]; decide)
    | (dsimp only; rw [pk_eq]; exact hp)
    | exact rfl
    | (dsimp only; omega)
    | omega
    | skip
  · rename_i z1 hz1 l1 s2
    have hz2 := hs
    clear hs
    have e : w = (((s2 ++ [p.1.nxt, p.1.hops]) ++ ipL p.1.src) ++ ipL p.1.dst) ++ s := by
      rw [← eW, encB_up, hz2, hz1, hq2, w3, w4]; rfl
    rw [e]
    clear e hz1 hz2 hq2 hun
    refine ⟨⟨some _, leF_c (leC_os rfl ?_), leN_is ?_ (isRow_sel ?_ (isRow_sel ?_ (isRow_sel ?_ (isRow_sel rfl (isRow_row _) fun k hk => ?_) fun k hk => ?_) fun k hk => ?_) fun k hk => ?_)⟩⟩
    · simp only [List.length_append, ipL_len, List.length_cons, List.length_nil]
    · simp only [List.length_append, ipL_len, List.length_cons, List.length_nil]
    · simp only [List.length_append, ipL_len, List.length_cons, List.length_nil]
    · simp only [List.length_append, ipL_len, List.length_cons, List.length_nil]
    · simp only [List.length_append, ipL_len, List.length_cons, List.length_nil]
    · rw [show s2.length + k - s2.length = k by omega]
      rcases k with _ | _ | k
      · rfl
      · rfl
      · exact absurd hk (by show ¬ _ < 2; omega)
    · have h16 : k < 16 := by rw [ipL_len] at hk; exact hk
      exact (tailC_src (k := k) (by omega) h16).trans (ip_at rfl hk)
    · have h16 : k < 16 := by rw [ipL_len] at hk; exact hk
      exact (tailC_dst (k := k) (by omega) h16).trans (ip_at rfl hk)
    · show CV.int .u8 (s.getD (0 + (s2.length + 2 + (16 - 0) + (16 - 0) + k - (s2.length + 2 + (16 - 0) + (16 - 0)))) default) = _
      rw [show 0 + (s2.length + 2 + (16 - 0) + (16 - 0) + k - (s2.length + 2 + (16 - 0) + (16 - 0))) = k by omega]
abbrev rencE0 : Entry := newE (AC.cons cPk (AC.cons (cI .u16) AC.nil)) (fun a => PkW a.1 ∧ a.1.2.length ≤ 70368744170000 ∧ 0 ≤ a.2.1 ∧ a.2.1 < 65536) (fun a => encB a.1 a.2.1) (fun L => some L.length) (fun _ => none) (fun L => ents eB 5 L)
def LRp3 : CsL := (64, some rencE0) :: LRp2
theorem LRp3_ok : AllOk Try.prog LRp3 := ⟨newE_ok ⟨_, Try.func64, rfl, by kernel_rfl⟩ (fun s l h => by cases h) fun a h => rencode_ok a.1 a.2.1 h.1 h.2.1 h.2.2, LRp2_ok⟩
set_option maxHeartbeats 8000000 in
set_option maxRecDepth 20000 in
theorem rEncode_ok (p : Pkt) (hp : PkW p) (hl : p.2.length ≤ 140737488355328) : NewOk Try.prog 20 [cPk.enc p] (some ((encR p).getD []).length) (some [i64V (ecR (encR p))]) (ents eB 5 ((encR p).getD [])) := by
  refine new_intro (wd := 1) (Q := mkQ LRp3) (by decide) tysOk (q_of LRp3_ok) mixed Try.func20 rfl _ (by show 1 ≤ _; decide) (fun i _ j _ => row_nf eB _ i j) ?_
  repeat' (first | (apply And.intro <;> intro hc <;> (first | exact Bool.noConfusion hc | (simp only [decide_eq_true_eq, decide_eq_false_iff_not, Bool.not_eq_true', Bool.not_eq_false', beq_iff_eq, beq_eq_false_iff_ne, bne_iff_ne, bne_eq_false_iff_eq, Bool.true_eq_false, Bool.false_eq_true, ne_eq, not_true_eq_false] at hc <;> first | exact absurd rfl hc | skip) | skip)) | (refine And.intro (by first | exact trivial | decide | omega | (dsimp only; omega) | exact fun _ _ => rfl | exact ⟨by assumption, by first | exact trivial | decide | omega | (dsimp only; omega)⟩) ?_) | (apply And.intro) | (intro s hs; (first | (have hs' : s = validP p := hs.trans (congrArg validP (pk_eq p _)); clear hs; subst hs') | (have hs' : s = sumP p := hs.trans (congrArg sumP (pk_eq p _)); clear hs; subst hs') | (have hq : s = encB p (sumP p) := hs.trans (congrArg (fun x => encB x (sumP p)) (pk_eq p _)); clear hs) | skip)))
  all_goals
    try (have hvv : validP p = true := by assumption)
    try (have hvl := valid_len hvv)
  all_goals first
    | (dsimp only; rw [pk_eq]; exact hp)
    | (dsimp only; rw [toL_b]; omega)
    | exact (sumP_r p).1
    | exact (sumP_r p).2
    | skip
  · have e : encR p = none := if_neg (fun h => by simp_all)
    rw [e]
    exact ⟨⟨none, leF_tup ⟨leC_nils_os rfl, leC_int rfl, trivial⟩, rfl, rfl, by decide⟩⟩
  · have hv : validP p = true := by simp_all
    have e : encR p = some s := by unfold encR; rw [if_pos hv, hq]
    rw [e]
    exact ⟨⟨some _, leF_tup ⟨leC_os rfl rfl, leC_int rfl, trivial⟩, leN_ents⟩⟩
abbrev rencE : Entry := newE PA (fun a => PkW a.1 ∧ a.1.2.length ≤ 140737488355328) (fun a => encR a.1) (fun s => some (s.getD []).length) (fun s => some [i64V (ecR s)]) (fun s => ents eB 5 (s.getD []))
def LRp4 : CsL := (20, some rencE) :: LRp3
theorem LRp4_ok : AllOk Try.prog LRp4 := ⟨newE_ok ⟨_, Try.func20, rfl, by kernel_rfl⟩ (fun s l h x hx => by injection h with h; subst h; obtain rfl := List.mem_singleton.1 hx; exact nfE_c nf_int) fun a h => rEncode_ok a.1 h.1 h.2, LRp3_ok⟩
end Go.Proofs.Ytjknkfjhcapocaa.AX
