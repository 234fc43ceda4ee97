/- Layer 13 by AX2: Forward of the program. -/
import Derived.Test.YtjknkfjhcapocaaPk4
namespace Go.Proofs.Ytjknkfjhcapocaa.AX
open Go.RowKit
set_option linter.unusedVariables false
set_option linter.unusedSimpArgs false
theorem dec_len {b : List Int} (h : (decF b).2 = 0) : 40 ≤ b.length ∧ b.length ≤ 1280 ∧ decF b = (pkF b, 0) := by
  unfold decF at h ⊢
  split at h
  · cases h
  · split at h
    · cases h
    · rename_i h1 h2
      rw [if_neg h2]
      split at h
      · cases h
      · split at h
        · cases h
        · split at h
          · cases h
          · split at h
            · cases h
            · rename_i h3 h4 h5 h6
              rw [if_neg h1, if_neg h3, if_neg h4, if_neg h5, if_neg h6]
              refine ⟨by omega, by omega, rfl⟩
theorem pkF_hops (b : List Int) : (pkF b).1.hops = b.getD 7 default := by
  unfold pkF
  split <;> rfl
/-- Forward: the bytes with one hop less, and the answer. -/
def fwdF (b : List Int) : List Int × Int :=
  if (decF b).2 ≠ 0 then ([], (decF b).2)
  else if (decF b).1.1.hops < 2 then ([], 2)
  else (b.set 7 (IntKind.u8.wrap (b.getD 7 default - 1)), 0)
set_option maxHeartbeats 8000000 in
set_option maxRecDepth 20000 in
theorem forward_ok (b : List Int) (hb : BL b) (hl : b.length ≤ 140737488355328) : NewOk Try.prog 32 [(cSl eB eB_sz).enc b] (some (fwdF b).1.length) (some [i64V (fwdF b).2]) (ents eB 5 (fwdF b).1) := by
  obtain ⟨d, eD⟩ : ∃ d, decF b = d := ⟨_, rfl⟩
  obtain ⟨w, eW⟩ : ∃ w, fwdF b = w := ⟨_, rfl⟩
  rw [eW]
  refine new_intro (wd := 1) (Q := mkQ LPh) (by decide) tysOk (q_of LPh_ok) mixed Try.func32 rfl _ (by show 1 ≤ _; decide) (fun i _ j _ => row_nf eB _ i j) ?_
  repeat' (first | (apply And.intro <;> intro hc <;> (first | exact Bool.noConfusion hc | (simp only [decide_eq_true_eq, decide_eq_false_iff_not, Bool.not_eq_true', Bool.not_eq_false', beq_iff_eq, beq_eq_false_iff_ne, bne_iff_ne, bne_eq_false_iff_eq, Bool.true_eq_false, Bool.false_eq_true, ne_eq, not_true_eq_false] at hc <;> first | exact absurd rfl hc | skip) | skip)) | (refine And.intro (by first | exact trivial | decide | omega | (dsimp only; omega) | exact fun _ _ => rfl | exact ⟨by assumption, by first | exact trivial | decide | omega | (dsimp only; omega)⟩) ?_) | (apply And.intro) | (intro s hs; (first | (have q : s = d := by (rw [hs]; dsimp only; rw [toL_b, eD]); clear hs; subst q) | skip)))
  · dsimp only; rw [toL_b]; exact hb
  · dsimp only; rw [toL_b]; exact hl
  · have q : decF b = s := by rw [hs]; dsimp only; rw [toL_b]
    have e : w = ([], s.2) := by rw [← eW]; unfold fwdF; rw [q, if_pos hc]
    rw [e]
    exact ⟨⟨none, leF_tup ⟨leC_nils_os rfl, leC_int rfl, trivial⟩, rfl, rfl, (by show 0 < 1; omega)⟩⟩
  · have q : decF b = s := by rw [hs]; dsimp only; rw [toL_b]
    have e : w = ([], 2) := by rw [← eW]; unfold fwdF; rw [q, if_neg (fun h => h (by assumption)), if_pos hc]
    rw [e]
    exact ⟨⟨none, leF_tup ⟨leC_nils_os rfl, leC_int rfl, trivial⟩, rfl, rfl, (by show 0 < 1; omega)⟩⟩
  · have q : decF b = s := by rw [hs]; dsimp only; rw [toL_b]
    have := dec_len (b := b) (by rw [q]; assumption)
    omega
  · have q : decF b = s := by rw [hs]; dsimp only; rw [toL_b]
    have := dec_len (b := b) (by rw [q]; assumption)
    omega
  · have q : decF b = s := by rw [hs]; dsimp only; rw [toL_b]
    have := dec_len (b := b) (by rw [q]; assumption)
    omega
  · have q : decF b = s := by rw [hs]; dsimp only; rw [toL_b]
    have := dec_len (b := b) (by rw [q]; assumption)
    omega
  · have q : decF b = s := by rw [hs]; dsimp only; rw [toL_b]
    have hl7 := dec_len (b := b) (by rw [q]; assumption)
    have e : w = (b.set 7 (IntKind.u8.wrap (b.getD 7 default - 1)), 0) := by rw [← eW]; unfold fwdF; rw [q, if_neg (fun h => h (by assumption)), if_neg hc]
    rw [e]
    refine ⟨⟨some 17, leF_tup ⟨leC_os rfl ?_, leC_int rfl, trivial⟩, leN_set (E := eB) ?_ ?_ (fun i hi j hj => ?_) fun j hj => ?_⟩⟩
    · show _ = (b.set 7 _).length
      rw [List.length_set]; omega
    · show _ = b.length; omega
    · show 7 < b.length; omega
    · refine leC_is (isRow_un (isRow_ov (l := b) ?_ ?_)) hi hj
      · exact min_ge (by omega) (by omega)
      · exact fun k hk => rfl
    · have hj : j < 1 := hj
      obtain rfl : j = 0 := by omega
      have h7 : Nat.blt (0 + Int.toNat 7) (0 + Nat.min b.length (b.length : Int).toNat) = true := blt_lt (by
        have : b.length ≤ Nat.min b.length (b.length : Int).toNat := min_ge (by omega) (by omega)
        show 0 + 7 < _; omega)
      refine leC_int ?_
      rw [h7]
      rfl
abbrev fwdE : Entry := newE (AC.cons (cSl eB eB_sz) AC.nil) (fun a => BL a.1 ∧ a.1.length ≤ 140737488355328) (fun a => fwdF a.1) (fun s => some s.1.length) (fun s => some [i64V s.2]) (fun s => ents eB 5 s.1)
def LPi : CsL := (32, some fwdE) :: LPh
theorem LPi_ok : AllOk Try.prog LPi := ⟨newE_ok ⟨_, Try.func32, rfl, by kernel_rfl⟩ (fun s l h x hx => by injection h with h; subst h; obtain rfl := List.mem_singleton.1 hx; exact nfE_c nf_int) fun a h => forward_ok a.1 h.1 h.2, LPh_ok⟩
end Go.Proofs.Ytjknkfjhcapocaa.AX
