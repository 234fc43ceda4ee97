/- Plain laws: decoding undoes encoding, and the other way; the reference's decoder and forwarder are those of the program. -/
import Derived.Test.YtjknkfjhcapocaaPkQ
import Derived.Test.YtjknkfjhcapocaaPkP
namespace Go.Proofs.Ytjknkfjhcapocaa.AX
open Go.RowKit
set_option linter.unusedVariables false
set_option linter.unusedSimpArgs false
theorem u16_id {x : Int} (h : 0 ≤ x ∧ x < 65536) : IntKind.u16.wrap x = x := IntWalk.u16_in _ (by omega)
theorem uI2_r {b : List Int} (hb : BL b) {a : Int} {k : Nat} (e : a = k) (h : k + 2 ≤ b.length) : 0 ≤ uI b a 2 ∧ uI b a 2 < 65536 := by
  rw [uI_2 e h]
  have h1 := hb.get k; have h2 := hb.get (k + 1)
  omega
theorem sizeP_ge (p : Pkt) : 40 ≤ sizeP p ∧ (p.1.nxt = 17 → 48 ≤ sizeP p) := by unfold sizeP; split <;> omega
theorem enc_nxt (p : Pkt) (s : Int) : (encB p s).getD 6 default = p.1.nxt := by rw [encB_hd]; rfl
theorem enc_hops (p : Pkt) (s : Int) : (encB p s).getD 7 default = p.1.hops := by rw [encB_hd]; rfl
theorem sumP_other {p : Pkt} (h : p.1.nxt ≠ 17) : sumP p = 0 := by
  unfold sumP; rw [if_neg (fun k => h k.2)]
/-- What is needed of the length of an encoding. -/
theorem enc_lens {p : Pkt} (hp : PkM p) (s : Int) : (40 ≤ (encB p s).length ∧ (encB p s).length ≤ 1280) ∧ ((encB p s).getD 6 default = 17 → 48 ≤ (encB p s).length) := by
  have h1 := encB_len p s
  have h2 := valid_size hp.v
  have h3 := sizeP_ge p
  rw [enc_nxt]
  refine ⟨by omega, fun h => ?_⟩
  have := h3.2 h
  omega
/-- What the decoder says of bytes with a right header. -/
theorem dec_hdr {p : Pkt} (hp : PkM p) {s : Int} (hs : 0 ≤ s ∧ s < 65536) : decF (encB p s) = if p.1.nxt = 17 ∧ s ≠ sumP p then (pk0, 6) else (p, 0) := by
  have hl := enc_lens hp s
  have hb := encB_BL hp.w s
  have hk := pkF_enc hp.w hp.v hs
  have hc := (encB_pkF hb hl.1 hl.2 hs).1 (by rw [hk])
  have hl2 := hl.2
  have hcv : p.1.nxt = 17 → IntKind.u16.wrap (uI (encB p s) 46 2) = s ∧ sum0 (coverB (encB p s)) = sumP p := fun h => by
    rw [← (hc.2 ((enc_nxt p s).trans h)).2, u16_id hs, cover_enc h, sumP_covL hp.v h]
    exact ⟨rfl, rfl⟩
  rw [enc_nxt] at hc hl2
  unfold decF
  rw [hk, hp.v, enc_nxt, if_neg (by omega), if_neg (by omega), if_neg (fun h => h.elim (fun h => h hc.1.1) (fun h => h hc.1.2)), if_neg (fun h => h.2 (hc.2 h.1).1), if_neg (by decide)]
  by_cases hu : p.1.nxt = 17
  · obtain ⟨e1, e2⟩ := hcv hu
    rw [e1, e2]
  · rw [if_neg (fun h => hu h.1), if_neg (fun h => hu h.1)]
theorem enc_dec {p : Pkt} (hp : PkM p) : decF (encB p (sumP p)) = (p, 0) := by
  rw [dec_hdr hp (sumP_r p), if_neg (fun h => h.2 rfl)]
/-- What is decoded is the encoding of a valid packet. -/
theorem dec_enc {b : List Int} (hb : BL b) (h : (decF b).2 = 0) : decF b = (pkF b, 0) ∧ PkM (pkF b) ∧ b = encB (pkF b) (sumP (pkF b)) := by
  obtain ⟨l1, l2, e⟩ := dec_len h
  rw [e] at h
  refine ⟨e, ?_⟩
  unfold decF at e
  split at e
  · cases congrArg Prod.snd e
  · split at e
    · cases congrArg Prod.snd e
    · rename_i c1 c2
      split at e
      · cases congrArg Prod.snd e
      · rename_i c3
        split at e
        · cases congrArg Prod.snd e
        · rename_i c4
          split at e
          · cases congrArg Prod.snd e
          · rename_i c5
            split at e
            · cases congrArg Prod.snd e
            · rename_i c6
              have hlen : b.getD 6 default = 17 → 48 ≤ b.length := fun k => by
                rcases Nat.lt_or_ge b.length 48 with h' | h'
                · exact absurd (.inr ⟨h', k⟩) c2
                · exact h'
              have hv : validP (pkF b) = true := by cases hv : validP (pkF b) with | true => rfl | false => exact absurd hv c5
              have hw := pkF_w hb l1
              have d3 : shrI .u64 (uI b 0 4) 28 = 6 ∧ uI b 4 2 = IntKind.u64.wrap (IntKind.i64.wrap (b.length - 40)) := by
                refine ⟨Classical.byContradiction fun k => c3 (.inl k), Classical.byContradiction fun k => c3 (.inr k)⟩
              refine ⟨⟨hv, hw⟩, ?_⟩
              by_cases hu : b.getD 6 default = 17
              · have h48 := hlen hu
                have d4 : uI b 44 2 = IntKind.u64.wrap (IntKind.i64.wrap (b.length - 40)) := Classical.byContradiction fun k => c4 ⟨hu, k⟩
                have d6 : IntKind.u16.wrap (uI b 46 2) = sum0 (coverB b) := Classical.byContradiction fun k => c6 ⟨hu, k⟩
                have hr := uI2_r hb (a := 46) (k := 46) rfl (by omega)
                rw [u16_id hr] at d6
                have e1 := (encB_pkF hb ⟨l1, l2⟩ hlen hr).2 ⟨d3, fun _ => ⟨d4, rfl⟩⟩
                have e2 : sumP (pkF b) = uI b 46 2 := by
                  rw [sumP_covL hv ((pkF_nxt b).trans hu), ← cover_enc ((pkF_nxt b).trans hu) (uI b 46 2), e1, d6]
                rw [e2]; exact e1.symm
              · rw [sumP_other (by rw [pkF_nxt]; exact hu)]
                exact ((encB_pkF hb ⟨l1, l2⟩ hlen ⟨Int.le_refl _, by decide⟩).2 ⟨d3, fun k => absurd k hu⟩).symm
/-- The checksum that the reference reads. -/
def rsumB (b : List Int) : Int := if b.getD 6 default = 17 then IntKind.u16.wrap (uI b 46 2) else 0
def rdecF (b : List Int) : Pkt × Int :=
  if 1280 < b.length then (pk0, 3)
  else if b.length < 40 ∨ b.length < 48 ∧ b.getD 6 default = 17 then (pk0, 4)
  else if validP (pkF b) = false ∨ encB (pkF b) (rsumB b) ≠ b then (pk0, 5)
  else if b.getD 6 default = 17 ∧ rsumB b ≠ sumP (pkF b) then (pk0, 6)
  else (pkF b, 0)
theorem rdec_eq {b : List Int} (hb : BL b) : rdecF b = decF b := by
  unfold rdecF decF
  split
  · rfl
  · rename_i c1
    split
    · rfl
    · rename_i c2
      have l1 : 40 ≤ b.length := by omega
      have l2 : b.length ≤ 1280 := by omega
      have hlen : b.getD 6 default = 17 → 48 ≤ b.length := fun k => by
        rcases Nat.lt_or_ge b.length 48 with h' | h'
        · exact absurd (.inr ⟨h', k⟩) c2
        · exact h'
      have hr : 0 ≤ rsumB b ∧ rsumB b < 65536 := by
        unfold rsumB
        split
        · exact u16r' _
        · omega
      have hk := encB_pkF hb ⟨l1, l2⟩ hlen hr
      have hs46 : b.getD 6 default = 17 → rsumB b = uI b 46 2 := fun hu => by
        have h48 := hlen hu
        unfold rsumB
        rw [if_pos hu, u16_id (uI2_r hb (a := 46) (k := 46) rfl (by omega))]
      cases hv : validP (pkF b) with
      | false =>
        rw [if_pos (.inl rfl)]
        split
        · rfl
        · split
          · rfl
          · rw [if_pos rfl]
      | true =>
        by_cases he : encB (pkF b) (rsumB b) = b
        · obtain ⟨d3, d4⟩ := hk.1 he
          rw [if_neg (fun h => h.elim (by decide) (fun h => h he)), if_neg (c := shrI .u64 (uI b 0 4) 28 ≠ 6 ∨ _) (fun h => h.elim (fun h => h d3.1) (fun h => h d3.2)), if_neg (c := b.getD 6 default = 17 ∧ uI b 44 2 ≠ _) (fun h => h.2 (d4 h.1).1), if_neg (c := true = false) (by decide)]
          by_cases hu : b.getD 6 default = 17
          · have e2 : sumP (pkF b) = sum0 (coverB b) := by
              rw [sumP_covL hv ((pkF_nxt b).trans hu), ← cover_enc ((pkF_nxt b).trans hu) (rsumB b), he]
            have e3 : rsumB b = IntKind.u16.wrap (uI b 46 2) := by unfold rsumB; rw [if_pos hu]
            rw [e2, e3]
          · rw [if_neg (fun h => hu h.1), if_neg (fun h => hu h.1)]
        · rw [if_pos (.inr he)]
          by_cases d3 : shrI .u64 (uI b 0 4) 28 ≠ 6 ∨ uI b 4 2 ≠ IntKind.u64.wrap (IntKind.i64.wrap (b.length - 40))
          · rw [if_pos d3]
          · rw [if_neg d3]
            by_cases d4 : b.getD 6 default = 17 ∧ uI b 44 2 ≠ IntKind.u64.wrap (IntKind.i64.wrap (b.length - 40))
            · rw [if_pos d4]
            · exact absurd (hk.2 ⟨⟨Classical.byContradiction fun k => d3 (.inl k), Classical.byContradiction fun k => d3 (.inr k)⟩, fun hu => ⟨Classical.byContradiction fun k => d4 ⟨hu, k⟩, hs46 hu⟩⟩) he
/-- Other hops. -/
def withHops (p : Pkt) (h : Int) : Pkt := ({ p.1 with hops := h }, p.2)
theorem sumP_hops (p : Pkt) (h : Int) : sumP (withHops p h) = sumP p := by
  by_cases hv : validP p = true ∧ p.1.nxt = 17
  · rw [sumP_covL (p := withHops p h) hv.1 hv.2, sumP_covL hv.1 hv.2]; rfl
  · unfold sumP
    rw [if_neg hv, if_neg (show ¬ (validP (withHops p h) = true ∧ (withHops p h).1.nxt = 17) from hv)]
theorem encB_hops (p : Pkt) (h s : Int) : encB (withHops p h) s = (encB p s).set 7 h := by
  rw [encB_hd, encB_hd]; rfl
theorem withHops_m {p : Pkt} (hp : PkM p) {h : Int} (hh : 0 ≤ h ∧ h < 256) : PkM (withHops p h) := ⟨hp.v, ⟨hp.w.cls, hp.w.flow, hp.w.nxt, hh, hp.w.src, hp.w.dst, hp.w.sp, hp.w.dp, hp.w.pay⟩⟩
/-- Forwarding an encoding. -/
theorem fwd_enc {p : Pkt} (hp : PkM p) : fwdF (encB p (sumP p)) = if p.1.hops < 2 then ([], 2) else (encB (withHops p (p.1.hops - 1)) (sumP p), 0) := by
  unfold fwdF
  rw [enc_dec hp, if_neg (fun h => h rfl)]
  dsimp only
  split
  · rfl
  · have h := hp.w.hops
    rw [enc_hops, encB_hops, IntWalk.u8_in _ (by omega)]
def rfwdF (b : List Int) : List Int × Int :=
  if (decF b).2 ≠ 0 then ([], (decF b).2)
  else if (decF b).1.1.hops < 2 then ([], 2)
  else ((encR (withHops (decF b).1 (IntKind.u8.wrap ((decF b).1.1.hops - 1)))).getD [], ecR (encR (withHops (decF b).1 (IntKind.u8.wrap ((decF b).1.1.hops - 1)))))
theorem rfwd_eq {b : List Int} (hb : BL b) : rfwdF b = fwdF b := by
  by_cases h : (decF b).2 = 0
  · obtain ⟨e1, hp, e2⟩ := dec_enc hb h
    generalize hpp : pkF b = p at e1 hp e2
    subst e2
    rw [fwd_enc hp]
    unfold rfwdF
    rw [enc_dec hp, if_neg (fun h => h rfl)]
    dsimp only
    have hh := hp.w.hops
    split
    · rfl
    · have hm := withHops_m hp (h := p.1.hops - 1) (by omega)
      rw [IntWalk.u8_in _ (by omega)]
      have e : encR (withHops p (p.1.hops - 1)) = some (encB (withHops p (p.1.hops - 1)) (sumP p)) := by
        unfold encR
        rw [if_pos hm.v, sumP_hops]
      rw [e]; rfl
  · unfold rfwdF fwdF
    rw [if_pos h, if_pos h]
end Go.Proofs.Ytjknkfjhcapocaa.AX
