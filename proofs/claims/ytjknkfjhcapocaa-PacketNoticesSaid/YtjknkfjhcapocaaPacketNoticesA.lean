/- PacketNotices, by AX2: the law returns true. -/
import Derived.Test.YtjknkfjhcapocaaPkU
namespace Go.Proofs.Ytjknkfjhcapocaa.AX
open Go.RowKit
set_option linter.unusedVariables false
set_option linter.unusedSimpArgs false
theorem totI_cons (A B : List Int) {x : Int} (hx : 0 ≤ x ∧ x < 256) : ∃ z : Nat, (totI (A ++ x :: B) : Int) = z + x * (if A.length % 2 = 0 then 256 else 1) ∧ ∀ y, 0 ≤ y ∧ y < 256 → (totI (A ++ y :: B) : Int) = z + y * (if A.length % 2 = 0 then 256 else 1) := by
  have key : ∀ y : Int, 0 ≤ y ∧ y < 256 → (totI (A ++ y :: B) : Int) = ((tot true (toU A) + tot (!side true (toU A)) (toU B) : Nat) : Int) + y * (if A.length % 2 = 0 then 256 else 1) := fun y hy => by
    unfold totI
    rw [toU_app, tot_append, show toU (y :: B) = UInt8.ofNat y.toNat :: toU B from rfl]
    have h1 := u8n hy
    have h2 := side_toU A
    by_cases he : A.length % 2 = 0
    · rw [h2, decide_eq_true he, if_pos he]
      simp only [tot, Bool.not_true, if_true]
      omega
    · rw [h2, decide_eq_false he, if_neg he]
      simp only [tot, Bool.not_false]
      simp
      omega
  exact ⟨_, key x hx, key⟩
/-- Two byte strings that differ in one byte. -/
structure Dif (X Y : List Int) (x y : Int) : Prop where
  d : ∃ A B, X = A ++ x :: B ∧ Y = A ++ y :: B
theorem Dif.left {X Y Z : List Int} {x y : Int} (h : Dif X Y x y) : Dif (Z ++ X) (Z ++ Y) x y := by
  obtain ⟨A, B, rfl, rfl⟩ := h.d
  exact ⟨Z ++ A, B, by simp, by simp⟩
theorem Dif.right {X Y Z : List Int} {x y : Int} (h : Dif X Y x y) : Dif (X ++ Z) (Y ++ Z) x y := by
  obtain ⟨A, B, rfl, rfl⟩ := h.d
  exact ⟨A, B ++ Z, by simp, by simp⟩
theorem Dif.set {X : List Int} {i : Nat} {y : Int} (h : i < X.length) : Dif X (X.set i y) (X.getD i default) y := by
  refine ⟨X.take i, X.drop (i + 1), ?_, ?_⟩
  · rw [← drop_at h, List.take_append_drop]
  · rw [List.set_eq_take_append_cons_drop, if_pos h]
def s0 (t : Nat) : Int := if (65535 - (foldN t : Int)) = 0 then 65535 else 65535 - (foldN t : Int)
theorem sum0_s0 (X : List Int) : sum0 X = s0 (totI X) := rfl
theorem s0_inj {a b : Nat} (ha : 0 < a) (hb : 0 < b) (h : s0 a = s0 b) : (a : Int) % 65535 = (b : Int) % 65535 := by
  have fa : foldN a = (a - 1) % 65535 + 1 := by unfold foldN; rw [if_neg (by omega)]
  have fb : foldN b = (b - 1) % 65535 + 1 := by unfold foldN; rw [if_neg (by omega)]
  unfold s0 at h
  rw [fa, fb] at h
  split at h <;> split at h <;> omega
theorem sum0_ne {X Y : List Int} {x y : Int} (h : Dif X Y x y) (hx : 0 ≤ x ∧ x < 256) (hy : 0 ≤ y ∧ y < 256) (hne : x ≠ y) (pX : 0 < totI X) (pY : 0 < totI Y) : sum0 X ≠ sum0 Y := by
  obtain ⟨A, B, rfl, rfl⟩ := h.d
  obtain ⟨z, e1, e2⟩ := totI_cons A B hx
  have e2 := e2 y hy
  rw [sum0_s0, sum0_s0]
  intro h
  have h := s0_inj pX pY h
  by_cases he : A.length % 2 = 0
  · rw [if_pos he] at e1 e2
    omega
  · rw [if_neg he] at e1 e2
    omega
theorem cover_pos (b : List Int) : 0 < totI (coverB b) := by
  obtain ⟨z, e1, _⟩ := totI_cons ((b.drop 8).take 32 ++ (beB ((b.length : Int) - 40) 4 ++ [0, 0, 0])) ((b.drop 40).take 6 ++ ([0, 0] ++ (b.drop 48))) (x := 17) (by decide)
  have e : coverB b = ((b.drop 8).take 32 ++ (beB ((b.length : Int) - 40) 4 ++ [0, 0, 0])) ++ 17 :: ((b.drop 40).take 6 ++ ([0, 0] ++ (b.drop 48))) := by
    unfold coverB
    simp
  rw [e]
  split at e1 <;> omega
/-- How the cover turns with one byte. -/
theorem cover_set {L : List Int} {i : Nat} {y : Int} (hl : 48 ≤ L.length) (hi : 8 ≤ i) (hiL : i < L.length) (h4 : i ≠ 44) (h5 : i ≠ 45) :
    (i = 46 ∨ i = 47) ∧ coverB (L.set i y) = coverB L ∨ (i ≠ 46 ∧ i ≠ 47) ∧ Dif (coverB L) (coverB (L.set i y)) (L.getD i default) y := by
  have hlen : (L.set i y).length = L.length := List.length_set ..
  unfold coverB
  rw [hlen]
  rcases Nat.lt_or_ge i 40 with h | h
  · right
    refine ⟨by omega, ?_⟩
    have e1 : (L.set i y).drop 40 = L.drop 40 := by rw [List.drop_set, if_pos h]
    have e2 : (L.set i y).drop 48 = L.drop 48 := by rw [List.drop_set, if_pos (by omega)]
    have e3 : ((L.set i y).drop 8).take 32 = ((L.drop 8).take 32).set (i - 8) y := by rw [List.drop_set, if_neg (by omega), List.take_set]
    rw [e1, e2, e3]
    refine Dif.right ?_
    have hd := Dif.set (X := (L.drop 8).take 32) (i := i - 8) (y := y) (by rw [List.length_take, List.length_drop]; omega)
    have hg : ((L.drop 8).take 32).getD (i - 8) default = L.getD i default := by
      rw [getD_dt L 8 32 (i - 8) (by omega) (by omega), show 8 + (i - 8) = i by omega]
    rw [hg] at hd
    exact hd
  · have e3 : ((L.set i y).drop 8).take 32 = (L.drop 8).take 32 := by
      rw [List.drop_set, if_neg (by omega), List.take_set, List.set_eq_of_length_le (by rw [List.length_take]; omega)]
    rcases Nat.lt_or_ge i 48 with h2 | h2
    · have e2 : (L.set i y).drop 48 = L.drop 48 := by rw [List.drop_set, if_pos h2]
      have e1 : ((L.set i y).drop 40).take 6 = ((L.drop 40).take 6).set (i - 40) y := by rw [List.drop_set, if_neg (by omega), List.take_set]
      rw [e1, e2, e3]
      rcases Nat.lt_or_ge i 44 with h3 | h3
      · right
        refine ⟨by omega, ?_⟩
        refine Dif.left (Dif.left (Dif.left (Dif.right ?_)))
        have hd := Dif.set (X := (L.drop 40).take 6) (i := i - 40) (y := y) (by rw [List.length_take, List.length_drop]; omega)
        have hg : ((L.drop 40).take 6).getD (i - 40) default = L.getD i default := by
          rw [getD_dt L 40 6 (i - 40) (by omega) (by omega), show 40 + (i - 40) = i by omega]
        rw [hg] at hd
        exact hd
      · left
        refine ⟨by omega, ?_⟩
        rw [List.set_eq_of_length_le (by rw [List.length_take]; omega)]
    · right
      refine ⟨by omega, ?_⟩
      have e1 : ((L.set i y).drop 40).take 6 = (L.drop 40).take 6 := by rw [List.drop_set, if_neg (by omega), List.take_set, List.set_eq_of_length_le (by rw [List.length_take]; omega)]
      have e2 : (L.set i y).drop 48 = (L.drop 48).set (i - 48) y := by rw [List.drop_set, if_neg (by omega)]
      rw [e1, e2, e3]
      refine Dif.left (Dif.left (Dif.left (Dif.left (Dif.left ?_))))
      have hd := Dif.set (X := L.drop 48) (i := i - 48) (y := y) (by rw [List.length_drop]; omega)
      have hg : (L.drop 48).getD (i - 48) default = L.getD i default := by
        rw [getD_dropI, show 48 + (i - 48) = i by omega]
      rw [hg] at hd
      exact hd
theorem getD_set_ne {L : List Int} {i k : Nat} {y : Int} (h : i ≠ k) : (L.set i y).getD k default = L.getD k default := by
  rw [List.getD_eq_getElem?_getD, List.getD_eq_getElem?_getD, List.getElem?_set_ne h]
theorem getD_set_self {L : List Int} {i : Nat} {y : Int} (h : i < L.length) : (L.set i y).getD i default = y := by
  rw [List.getD_eq_getElem?_getD, List.getElem?_set_self h]; rfl
/-- A changed byte is noticed. -/
theorem notice {r : Pkt} (hm : PkM r) (hu : r.1.nxt = 17) {i : Nat} {y : Int} (hi : 8 ≤ i) (hiL : i < (encB r (sumP r)).length) (h4 : i ≠ 44) (h5 : i ≠ 45) (hy : 0 ≤ y ∧ y < 256) (hne : (encB r (sumP r)).getD i default ≠ y) :
    (decF ((encB r (sumP r)).set i y)).2 = 6 ∨ (decF ((encB r (sumP r)).set i y)).2 = 5 ∧ i = 8 ∧ ((encB r (sumP r)).set i y).getD 8 default = 255 := by
  have hl := enc_lens hm (sumP r)
  have hb := encB_BL hm.w (sumP r)
  have hk := pkF_enc hm.w hm.v (sumP_r r)
  have hc := (encB_pkF hb hl.1 hl.2 (sumP_r r)).1 (by rw [hk])
  have hx := enc_nxt r (sumP r)
  have hcv : coverB (encB r (sumP r)) = covL r := cover_enc hu _
  have hsm := sumP_covL hm.v hu
  have hsr := sumP_r r
  have hsrc : (encB r (sumP r)).getD 8 default = vget r.1.src 0 := by rw [encB_hd]; rfl
  have hv := hm.v
  generalize hL : encB r (sumP r) = L at *
  rw [hx] at hc hl
  have h48 := hl.2 hu
  obtain ⟨⟨c1, c2⟩, c3⟩ := hc
  obtain ⟨c4, c5⟩ := c3 hu
  have hlen : (L.set i y).length = L.length := List.length_set ..
  have hMb : BL (L.set i y) := bl_set hb hy
  have hg : ∀ k, k < 8 → (L.set i y).getD k default = L.getD k default := fun k hk => getD_set_ne (by omega)
  have u04 : uI (L.set i y) 0 4 = uI L 0 4 := by
    rw [uI_4 (by omega), uI_4 (by omega), hg 0 (by omega), hg 1 (by omega), hg 2 (by omega), hg 3 (by omega)]
  have u42 : uI (L.set i y) 4 2 = uI L 4 2 := by
    rw [uI_2 (a := 4) (k := 4) rfl (by omega), uI_2 (a := 4) (k := 4) rfl (by omega), hg 4 (by omega), hg 5 (by omega)]
  have u44 : uI (L.set i y) 44 2 = uI L 44 2 := by
    rw [uI_2 (a := 44) (k := 44) rfl (by omega), uI_2 (a := 44) (k := 44) rfl (by omega), getD_set_ne (by omega), getD_set_ne (by omega)]
  have hM6 : (L.set i y).getD 6 default = 17 := by rw [hg 6 (by omega), hx, hu]
  have hval : validP (pkF (L.set i y)) = !decide ((L.set i y).getD 8 default = 255) := by
    have e1 : (pkF (L.set i y)).1.flow = r.1.flow := by
      have ea : (pkF (L.set i y)).1.flow = IntKind.u32.wrap (bits .and .u64 (uI (L.set i y) 0 4) 1048575) := by unfold pkF; split <;> rfl
      have eb : (pkF L).1.flow = IntKind.u32.wrap (bits .and .u64 (uI L 0 4) 1048575) := by unfold pkF; split <;> rfl
      rw [ea, u04, ← eb, hk]
    have e2 : sizeP (pkF (L.set i y)) = L.length := by rw [sizeP_pkF (by omega) (fun _ => by omega), hlen]
    have e3 : (pkF (L.set i y)).1.nxt = 17 := by rw [pkF_nxt]; exact hM6
    have e4 : mcast (pkF (L.set i y)).1.src = decide ((L.set i y).getD 8 default = 255) := by
      have : (pkF (L.set i y)).1.src = fun q => (L.set i y).getD (8 + q.1) default := by unfold pkF; split <;> rfl
      rw [this]; rfl
    unfold validP at hv ⊢
    simp only [Bool.and_eq_true, decide_eq_true_eq] at hv
    rw [e1, e2, e3, e4, decide_eq_true hv.1.1.1, decide_eq_true (show (L.length : Int) ≤ 1280 by omega), decide_eq_true (rfl : (17 : Int) = 17)]
    simp
  have hraw : 0 ≤ uI (L.set i y) 46 2 ∧ uI (L.set i y) 46 2 < 65536 := uI2_r hMb (a := 46) (k := 46) rfl (by omega)
  unfold decF
  rw [hlen, u04, u42, u44, hM6, hval, if_neg (by omega), if_neg (by omega), if_neg (fun h => h.elim (fun h => h c1) (fun h => h c2)), if_neg (fun h => h.2 c4)]
  by_cases h8 : (L.set i y).getD 8 default = 255
  · rw [if_pos (by rw [decide_eq_true h8]; rfl)]
    right
    refine ⟨rfl, ?_, h8⟩
    by_cases hi8 : i = 8
    · exact hi8
    · rw [getD_set_ne hi8, hsrc] at h8
      unfold validP mcast at hv
      simp [h8] at hv
  · rw [if_neg (by rw [decide_eq_false h8]; decide)]
    left
    have hne2 : IntKind.u16.wrap (uI (L.set i y) 46 2) ≠ sum0 (coverB (L.set i y)) := by
      rw [u16_id hraw]
      rcases cover_set (y := y) h48 hi hiL h4 h5 with ⟨h46, ec⟩ | ⟨h46, hd⟩
      · rw [ec, hcv, ← hsm, c5]
        have g6 := hb.get 46; have g7 := hb.get 47
        rw [uI_2 (a := 46) (k := 46) rfl (by omega), uI_2 (a := 46) (k := 46) rfl (by omega)]
        show (L.set i y).getD 46 default * 256 + (L.set i y).getD 47 default ≠ L.getD 46 default * 256 + L.getD 47 default
        rcases h46 with rfl | rfl
        · rw [getD_set_self hiL, getD_set_ne (by decide)]; omega
        · rw [getD_set_self hiL, getD_set_ne (by decide)]; omega
      · have e46 : uI (L.set i y) 46 2 = uI L 46 2 := by
          rw [uI_2 (a := 46) (k := 46) rfl (by omega), uI_2 (a := 46) (k := 46) rfl (by omega), getD_set_ne (by omega), getD_set_ne (by omega)]
        rw [e46, ← c5, hsm, ← hcv]
        exact sum0_ne hd (hb.get i) hy hne (cover_pos _) (cover_pos _)
    rw [if_pos ⟨rfl, hne2⟩]
theorem flipF : ∀ (x : Fin 256) (k : Fin 8), bits .xor .u8 (x.1 : Int) (shlI .u8 1 (k.1 : Int)) ≠ x.1 := by decide +kernel
theorem flip_ne {x k : Int} (hx : 0 ≤ x ∧ x < 256) (hk : 0 ≤ k ∧ k < 8) : x ≠ bits .xor .u8 x (shlI .u8 1 k) := by
  have h := flipF ⟨x.toNat, by omega⟩ ⟨k.toNat, by omega⟩
  dsimp only at h
  rw [Int.toNat_of_nonneg hx.1, Int.toNat_of_nonneg hk.1] at h
  exact fun e => h e.symm
theorem isRow_set {G : Nat → Nat → CV} {L : List Int} {i : Nat} {x : Int} {g : Nat → CV} (h : IsRow G L) (hg : g 0 = .int .u8 x) : IsRow (updE false G i g) (L.set i x) := ⟨fun k hk => by
  rw [List.length_set] at hk
  show selC (Nat.beq k i) (g 0) (G k 0) = _
  rw [selC_eq, hg, h.at_ k hk]
  by_cases e : k = i
  · subst e
    rw [beq_of rfl, cond_true, List.getD_eq_getElem?_getD, List.getElem?_set_self hk]; rfl
  · rw [beq_ne e, cond_false, List.getD_eq_getElem?_getD, List.getD_eq_getElem?_getD, List.getElem?_set_ne (by omega)]⟩
theorem toL_set {L : List Int} {i : Nat} {y : Int} {g : Nat → CV} (hg : g 0 = .int .u8 y) : (toL eB L.length fun k j => updE false (rowF eB L) i g (0 + k) j) = L.set i y :=
  toL_is (List.length_set ..).symm (isRow_0 (isRow_set (isRow_row L) hg))
theorem toL_set_BL {L : List Int} {i : Nat} {y : Int} {g : Nat → CV} (hb : BL L) (hg : g 0 = .int .u8 y) (hy : 0 ≤ y ∧ y < 256) : BL (toL eB L.length fun k j => updE false (rowF eB L) i g (0 + k) j) := by
  rw [toL_set hg]; exact bl_set hb hy
theorem getD_setB {L : List Int} {i k : Nat} {y : Int} (h : k < L.length) : (L.set i y).getD k default = bif Nat.beq k i then y else L.getD k default := by
  by_cases e : k = i
  · subst e; rw [beq_of rfl, cond_true, getD_set_self h]
  · rw [beq_ne e, cond_false, getD_set_ne (fun h => e h.symm)]
theorem note2 {r : Pkt} {L : List Int} (hm : PkM r) (hu : r.1.nxt = 17) (hLe : encB r (sumP r) = L) {I kb : Int} (hI : 8 ≤ I ∧ I < L.length) (h4 : I ≠ 44) (h5 : I ≠ 45) (hk : 0 ≤ kb ∧ kb < 8) (e : IntKind.u64.wrap kb = kb) {s : Pkt × Int} {g : Nat → CV} (hg : g 0 = .int .u8 (bits .xor .u8 (L.getD (0 + I.toNat) default) (shlI .u8 1 (IntKind.u64.wrap kb))))
    (hs : s = decF (toL eB L.length fun k j => updE false (rowF eB L) (0 + I.toNat) g (0 + k) j)) :
    s.2 = 6 ∨ s.2 = 5 ∧ I = 8 ∧ (L.set (0 + I.toNat) (bits .xor .u8 (L.getD (0 + I.toNat) default) (shlI .u8 1 (IntKind.u64.wrap kb)))).getD 8 default = 255 := by
  rw [toL_set hg] at hs
  subst hLe
  have hb := encB_BL hm.w (sumP r)
  have h := notice hm hu (i := 0 + I.toNat) (y := bits .xor .u8 ((encB r (sumP r)).getD (0 + I.toNat) default) (shlI .u8 1 (IntKind.u64.wrap kb))) (by omega) (by omega) (by omega) (by omega) (u8r _) (by rw [e]; exact flip_ne (hb.get _) hk)
  rw [hs]
  rcases h with h | ⟨h1, h2, h3⟩
  · exact .inl h
  · exact .inr ⟨h1, by omega, h3⟩
set_option maxHeartbeats 4000000 in
set_option maxRecDepth 20000 in
theorem notices_ok (n : Nat) (l : List Int) (hl : rngL l) (at_ bit : Int) : PureOk Try.prog 8 [.e (.c (.sl true n 1 (rI l))), (cI .i64).enc at_, (cI .i64).enc bit] (.e (.c (.bool true))) := by
  have hbit := modF_lt (v := bit) (n := 8) (by omega)
  have wb : IntKind.u64.wrap (modF bit 8) = modF bit 8 := IntWalk.u64_in _ (by omega)
  obtain ⟨kb, ekb⟩ : ∃ kb, modF bit 8 = kb := ⟨_, rfl⟩
  rw [ekb] at hbit wb
  refine pure_intro (wd := 1) (Q := mkQ LWp) (by decide) tysOk (q_of LWp_ok) mixed Try.func8 rfl _ (by show 3 ≤ _; decide) _ ?_
  repeat' (first | (apply And.intro <;> intro hc <;> (first | exact Bool.noConfusion hc | (simp only [decide_eq_true_eq, decide_eq_false_iff_not, Bool.not_eq_true', Bool.not_eq_false', beq_iff_eq, beq_eq_false_iff_ne, bne_iff_ne, bne_eq_false_iff_eq, Bool.true_eq_false, Bool.false_eq_true, ne_eq, not_true_eq_false] at hc <;> first | exact absurd rfl hc | skip) | skip)) | (refine And.intro (by first | exact trivial | decide | omega | (dsimp only; omega) | exact fun _ _ => rfl | exact ⟨by assumption, by first | exact trivial | decide | omega | (dsimp only; omega)⟩) ?_) | (apply And.intro) | (intro s hs; (first | (have q : s = encR r := hs.trans (congrArg encR (pk_eq r _)); clear hs; rw [hE] at q; subst q) | (have q : s = true := hs; clear hs; subst q) | (have hm : PkM s := hs; clear hs; rename Pkt => r; obtain ⟨L, hE, hLn, hLb, hLe⟩ : ∃ L, encR r = some L ∧ (L.length : Int) = sizeP r ∧ BL L ∧ encB r (sumP r) = L := ⟨encB r (sumP r), if_pos hm.v, encB_len _ _, encB_BL hm.w _, rfl⟩; have hsz := valid_size hm.v; have hsz2 := sizeP_ge r; have wl : IntKind.i64.wrap ((L.length : Int) - 8) = L.length - 8 := IntWalk.i64_in _ (by omega)) | (have hi : 0 ≤ s ∧ s < IntKind.i64.wrap ((L.length : Int) - 8) := (by (rw [show s = modF at_ (IntKind.i64.wrap ((L.length : Int) - 8)) from hs]; exact modF_lt (by rw [wl]; omega))); clear hs; rw [wl] at hi; have wi : IntKind.i64.wrap (8 + s) = 8 + s := IntWalk.i64_in _ (by omega); have h48 := hsz2.2 (by assumption); rename Int => t) | (have q : kb = s := (hs.trans ekb).symm; clear hs; subst q) | (have hq := note2 hm (by assumption) hLe (I := 46) (by omega) (by decide) (by decide) hbit wb rfl hs; clear hs) | (have hq := note2 hm (by assumption) hLe (I := IntKind.i64.wrap (8 + t)) (by rw [wi]; omega) (by assumption) (by assumption) hbit wb rfl hs; clear hs) | skip)))
  all_goals first
    | exact ⟨l, rfl, hl⟩
    | exact rfl
    | exact fun _ => rfl
    | exact Eq.mp (congrArg PkW (pk_eq r _).symm) hm.w
    | (have hw := valid_len hm.v
       show (toL eB r.2.length _).length ≤ _
       rw [toL_len]
       omega)
    | exact absurd rfl (by assumption : ¬ ecR (some L) = 0)
    | exact Done.mk (leF_bool rfl)
    | (have hc' : (L.length : Int) < 40 := by assumption
       omega)
    | (show 1 ≤ IntKind.i64.wrap ((L.length : Int) - 8); rw [wl]; omega)
    | (show IntKind.i64.wrap ((L.length : Int) - 8) ≤ _; rw [wl]; omega)
    | (dsimp only [Option.getD_some]; omega)
    | (dsimp only [Option.getD_some]; rw [wi]; omega)
    | (rw [wi]; omega)
    | (show 0 ≤ IntKind.u64.wrap kb; rw [wb]; omega)
    | exact toL_set_BL hLb rfl (u8r _)
    | (show (toL eB L.length _).length ≤ _; rw [toL_len]; omega)
    | (rcases hq with h | ⟨h1, h2, h3⟩ <;> first | exact absurd h (by assumption) | exact absurd h1 (by assumption) | exact absurd h2 (by assumption) | exact absurd h3 (by assumption) | exact absurd h2 (by decide) | (rw [getD_setB (by omega)] at h3; exact Done.mk (leF_bool (beq_iff_eq.2 h3))))
    | skip
end Go.Proofs.Ytjknkfjhcapocaa.AX
