/- What the maker Packet draws from a tape. -/
import Derived.Test.YtjknkfjhcapocaaPkQ
namespace Go.Proofs.Ytjknkfjhcapocaa.AX
open Go.RowKit
set_option linter.unusedVariables false
set_option linter.unusedSimpArgs false
theorem fin_mk {n : Nat} {l : List Int} {H : Hp} {g : Nat → CV} {m : Nat} (cls flow nxt hops : Int) (src dst : Fin 16 → Int) (sp dp : Int) (pay : List Int) (q : Int) (hm : m = 39)
    (hc : ∀ j, j < 38 → LeC ⟨H, [(0, some (tapeN n (rI l) q))], [], 1, true⟩ (g j) (eHd.cell ⟨cls, flow, nxt, hops, src, dst, sp, dp⟩ j))
    (hl : LeC ⟨H, [(0, some (tapeN n (rI l) q))], [], 1, true⟩ (g 38) (slR eB pay))
    (hE : WkE ⟨H, [(0, some (tapeN n (rI l) q))], [], 1, true⟩ (tapeN n (rI l) q) (some 0)) (hT : TapeOk n (rI l) q) (hP : PkM (⟨cls, flow, nxt, hops, src, dst, sp, dp⟩, pay)) :
    ∃ r : Pkt × Int, (PkM r.1 ∧ TapeOk n (rI l) r.2) ∧ FinM (.e (tailR eHd eB r.1)) (tapeN n (rI l) r.2) (.e (.agg m g)) H :=
  ⟨((⟨cls, flow, nxt, hops, src, dst, sp, dp⟩, pay), q), ⟨hP, hT⟩, ⟨leF_e (leE_tail hm hc hl), hE⟩⟩
theorem sz_r (p : Pkt) (h : p.2.length = 0) : sizeP p = 40 ∨ sizeP p = 48 := by
  unfold sizeP
  split <;> omega
theorem sz_eq (p : Pkt) (h : p.2.length = 0) : sizeP p = if p.1.nxt = 17 then 48 else 40 := by
  unfold sizeP
  rw [h]
  exact Int.add_zero _
theorem flow_r {s : Int} (h : 0 ≤ s ∧ s < 1048576) : 0 ≤ IntKind.u32.wrap s ∧ IntKind.u32.wrap s < 1048576 := by
  rw [IntWalk.u32_in s (by omega)]; exact h
theorem nff_tail {p : Pkt} : NFF (.e (tailR eHd eB p)) := nfE_tail
theorem fill_sz {nxt : Int} {zl : List Int} {z1 z0 : Int} {p : Pkt} (hz1 : z1 = sizeP p) (hp : p.2.length = 0) (hn : p.1.nxt = nxt) (h0 : 0 ≤ z0 ∧ z0 < 2) (h : BL zl ∧ (zl.length : Int) = IntKind.i64.wrap (IntKind.i64.wrap (1280 - z1) - z0)) : (if nxt = 17 then (48 : Int) else 40) + zl.length ≤ 1280 := by
  rw [sz_eq p hp, hn] at hz1
  have e1 : z1 = 40 ∨ z1 = 48 := by rw [hz1]; split <;> omega
  have w1 : IntKind.i64.wrap (1280 - z1) = 1280 - z1 := IntWalk.i64_in _ (by omega)
  have w2 : IntKind.i64.wrap (1280 - z1 - z0) = 1280 - z1 - z0 := IntWalk.i64_in _ (by omega)
  have h2 := h.2
  rw [w1, w2] at h2
  rw [← hz1]; omega
theorem byte_sz {nxt : Int} {zl : List Int} (h : BL zl ∧ (zl.length : Int) ≤ 12) : (if nxt = 17 then (48 : Int) else 40) + zl.length ≤ 1280 := by
  have := h.2
  split <;> omega
theorem mc_no {a' : Fin 16 → Int} {s : Bool} (hs : s = mcast a') (hc : s = false) : vget a' 0 ≠ 255 := by
  rw [hs] at hc
  unfold mcast at hc
  exact of_decide_eq_false hc
theorem zz256 : (0 : Int) ≤ 0 ∧ (0 : Int) < 256 := by decide
theorem zzf : (0 : Int) ≤ 0 ∧ (0 : Int) < 1048576 := by decide
theorem zz16 : (0 : Int) ≤ 0 ∧ (0 : Int) < 65536 := by decide
set_option maxHeartbeats 16000000 in
set_option maxRecDepth 20000 in
theorem packet_ok (n : Nat) (l : List Int) (q : Int) (a1 a2 : Adr) (ht : TapeOk n (rI l) q) :
    ∃ (r : Pkt) (q' : Int), PkM r ∧ TapeOk n (rI l) q' ∧ MethOk Try.prog 36 [(cE eAdr).enc a1, (cE eAdr).enc a2] (tapeN n (rI l) q) (.e (tailR eHd eB r)) (tapeN n (rI l) q') := by
  refine tape_intro (S := PkM) (enc := fun r => .e (tailR eHd eB r)) (wd := 1) (Q := mkQ LM) (by decide) tysOk (q_of LM_ok) mixed Try.func36 rfl _ (by show 2 + 1 ≤ _; decide) (fun _ => nff_tail) ?_
  repeat' (first | (apply And.intro <;> intro hc <;> (first | exact Bool.noConfusion hc | (simp only [decide_eq_true_eq, decide_eq_false_iff_not, Bool.not_eq_true', Bool.not_eq_false', beq_iff_eq, beq_eq_false_iff_ne, bne_iff_ne, bne_eq_false_iff_eq, Bool.true_eq_false, Bool.false_eq_true] at hc) | skip)) | (refine And.intro (by first | exact trivial | decide | omega | (dsimp only; omega) | exact fun _ _ => rfl | exact ⟨by assumption, by first | exact trivial | decide | omega | (dsimp only; omega)⟩) ?_) | (apply And.intro) | (intro s hs))
  all_goals first
    | exact Nat.le_trans (Nat.le_of_eq (toL_len _ _ _)) (Nat.zero_le _)
    | (rename_i s1 hs1 s0 hs0
       have e1 : s1 = 40 ∨ s1 = 48 := by rw [hs1]; exact sz_r _ rfl
       have e0 : 0 ≤ s0 ∧ s0 < 2 := hs0
       have w1 : IntKind.i64.wrap (1280 - s1) = 1280 - s1 := IntWalk.i64_in _ (by omega)
       have w2 : IntKind.i64.wrap (1280 - s1 - s0) = 1280 - s1 - s0 := IntWalk.i64_in _ (by omega)
       first
         | (show 0 ≤ IntKind.i64.wrap (IntKind.i64.wrap (1280 - s1) - s0); rw [w1, w2]; omega)
         | (show IntKind.i64.wrap (IntKind.i64.wrap (1280 - s1) - s0) ≤ 2000; rw [w1, w2]; omega))
    | skip
  all_goals first
    | (apply fin_mk (src := setV _ 0 32)
       · rfl
       · intro j hj
         iterate 38 (rcases j with _ | j; exact leC_int rfl)
         exact absurd hj (by omega)
       · exact leC_sl (fun _ => rfl) rfl rfl fun i _ j _ => leC_int rfl
       · exact tapeN_le
       · assumption
       · apply pkM_mk
         · first | exact u8r _ | exact zz256
         · first | exact flow_r (by assumption) | exact zzf
         · exact pick5 0 _ _ _ _ _ (by omega) _
         · exact pick5 0 _ _ _ _ _ (by omega) _
         · exact setV_ok (by assumption) (by omega)
         · assumption
         · first | assumption | exact zz16
         · first | assumption | exact zz16
         · exact (show BL _ ∧ _ from by assumption).1
         · show (32 : Int) ≠ 255; decide
         · first
             | exact byte_sz (by assumption)
             | (refine fill_sz (by assumption) ?_ ?_ (by assumption) (by assumption)
                · exact toL_len _ _ _
                · rfl)
         · first | exact .inl (by assumption) | exact .inr ⟨rfl, rfl⟩)
    | (apply fin_mk
       · rfl
       · intro j hj
         iterate 38 (rcases j with _ | j; exact leC_int rfl)
         exact absurd hj (by omega)
       · exact leC_sl (fun _ => rfl) rfl rfl fun i _ j _ => leC_int rfl
       · exact tapeN_le
       · assumption
       · apply pkM_mk
         · first | exact u8r _ | exact zz256
         · first | exact flow_r (by assumption) | exact zzf
         · exact pick5 0 _ _ _ _ _ (by omega) _
         · exact pick5 0 _ _ _ _ _ (by omega) _
         · assumption
         · assumption
         · first | assumption | exact zz16
         · first | assumption | exact zz16
         · exact (show BL _ ∧ _ from by assumption).1
         · (have hmc := mc_no (by assumption) (by assumption); exact hmc)
         · first
             | exact byte_sz (by assumption)
             | (refine fill_sz (by assumption) ?_ ?_ (by assumption) (by assumption)
                · exact toL_len _ _ _
                · rfl)
         · first | exact .inl (by assumption) | exact .inr ⟨rfl, rfl⟩)
    | skip
end Go.Proofs.Ytjknkfjhcapocaa.AX
