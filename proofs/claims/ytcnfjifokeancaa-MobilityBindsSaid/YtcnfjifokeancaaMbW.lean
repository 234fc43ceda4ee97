/- multihopworld.IP (by AX2). -/
import Derived.Test.YtcnfjifokeancaaMb3
import Derived.Test.YtcnfjifokeancaaTp2
namespace Go.Proofs.Ytcnfjifokeancaa.AX
open Go.RowKit
set_option linter.unusedVariables false
set_option linter.unusedSimpArgs false
def wipA (x y z : Int) : Fin 16 → Int := fun q => if q.1 = 0 then 32 else if q.1 = 1 then 1 else if q.1 = 2 then 13 else if q.1 = 3 then 184 else if q.1 = 5 then x else if q.1 = 6 then y else if q.1 = 15 then z else 0
theorem wipA_ok {x y z : Int} (hx : 0 ≤ x ∧ x < 256) (hy : 0 ≤ y ∧ y < 256) (hz : 0 ≤ z ∧ z < 256) : byteOk (wipA x y z) := ⟨fun q => by
  unfold wipA
  repeat' split
  all_goals omega⟩
theorem wip_prop {x y z v : Int} {i : Nat} : vget (setV (wipA x y z) i v) 2 = 13 ∨ vget (setV (wipA x y z) i v) 3 = 184 := by
  rw [vget_lt _ (show 2 < 16 by omega), vget_lt _ (show 3 < 16 by omega)]
  by_cases h : i = 2
  · right; simp [setV, wipA, h]
  · left; simp only [setV]; rw [if_neg (show ¬ (2 : Nat) = i by omega)]; simp [wipA]
theorem leE_rd {c : Wc} {α : Type} {E : Elem α} {g : Nat → CV} (h : E.ok g = true) : LeE c (.agg E.sz g) (.agg E.sz (E.cell (E.rd g))) :=
  leE_agg rfl fun j hj => by rw [E.ok_eq g h j hj]; exact (E.flat _ _).le
theorem rng_bif {b : Bool} {x y : Int} (hx : 0 ≤ x ∧ x < 256) (hy : 0 ≤ y ∧ y < 256) : 0 ≤ (bif b then x else y) ∧ (bif b then x else y) < 256 := by cases b <;> assumption
theorem byteOk_rd {g : Nat → CV} (h : allLt 16 fun j => 0 ≤ valI (g j) ∧ valI (g j) < 256) : byteOk ((eA .u8 16).rd g) := ⟨fun q => allLt_at h q.1 q.2⟩
theorem fin_rd {H : Hp} {g : Nat → CV} {S : (Fin 16 → Int) → Prop} {n : Nat} {l : List Int} {q' : Int} (hok : (eA .u8 16).ok g = true) (hS : S ((eA .u8 16).rd g)) (ht : TapeOk n (rI l) q') (hH : hget H 0 = some (tapeN n (rI l) q')) :
    ∃ r : (Fin 16 → Int) × Int, (S r.1 ∧ TapeOk n (rI l) r.2) ∧ FinM ((cE (eA .u8 16)).enc r.1) (tapeN n (rI l) r.2) (.e (.agg 16 g)) H := by
  refine ⟨((eA .u8 16).rd g, q'), ⟨hS, ht⟩, ⟨leF_e (leE_rd (E := eA .u8 16) hok), ?_⟩⟩
  unfold WkE
  simp only [hH]
  exact tapeN_le
set_option maxHeartbeats 4000000 in
set_option maxRecDepth 10000 in
theorem wip_ok (n : Nat) (l : List Int) (q : Int) (ht : TapeOk n (rI l) q) :
    ∃ (r : Fin 16 → Int) (q' : Int), (byteOk r ∧ (vget r 2 = 13 ∨ vget r 3 = 184)) ∧ TapeOk n (rI l) q' ∧ MethOk Try.prog 21 [] (tapeN n (rI l) q) ((cE (eA .u8 16)).enc r) (tapeN n (rI l) q') := by
  refine tape_intro (wd := 1) (Q := mkQ LT1) (by decide) tysOk (q_of LT1_ok) mixed Try.func21 rfl _ (by show 0 + 1 ≤ _; decide) (nff_elem (eA .u8 16)) ?_
  repeat' (first | (apply And.intro <;> intro hc <;> (first | exact Bool.noConfusion hc | (simp only [decide_eq_true_eq, decide_eq_false_iff_not, Bool.not_eq_true', Bool.not_eq_false', beq_iff_eq, beq_eq_false_iff_ne, bne_iff_ne, bne_eq_false_iff_eq, Bool.true_eq_false, Bool.false_eq_true] at hc) | skip)) | (refine And.intro (by first | exact trivial | decide | omega | (dsimp only; omega) | exact fun _ _ => rfl | exact ⟨by assumption, by first | exact trivial | decide | omega | (dsimp only; omega)⟩) ?_) | (apply And.intro) | (intro s hs))
  · rename_i s4 h4
    have h4' : 0 ≤ s4 ∧ s4 < 16 := h4
    show 1 ≤ 16 - (0 + s4.toNat * 1)
    omega
  · rename_i s4 h4 q5 hq5 s5 h5
    have h5' : 0 ≤ s5 ∧ s5 < 8 := h5
    rw [IntWalk.u64_in _ (by omega)]
    omega
  · rename_i s4 h4 q5 hq5 s5 h5
    have h4' : 0 ≤ s4 ∧ s4 < 16 := h4
    show 0 + s4.toNat * 1 + 1 ≤ 16
    omega
  · rename_i s1 h1 q1 hq1 s2 h2 q2 hq2 s3 h3 q3 hq3 sb hb q4 hq4 s4 h4 q5 hq5 s5 h5
    refine fin_rd (S := fun r => byteOk r ∧ (vget r 2 = 13 ∨ vget r 3 = 184)) rfl (And.intro (byteOk_rd ?_) ?_) (by assumption) rfl
    · repeat' (first | exact trivial | exact rng_bif (u8r _) (show 0 ≤ (0 : Int) ∧ (0 : Int) < 256 by decide) | exact rng_bif (u8r _) (show 0 ≤ (32 : Int) ∧ (32 : Int) < 256 by decide) | exact rng_bif (u8r _) (show 0 ≤ (1 : Int) ∧ (1 : Int) < 256 by decide) | exact rng_bif (u8r _) (show 0 ≤ (13 : Int) ∧ (13 : Int) < 256 by decide) | exact rng_bif (u8r _) (show 0 ≤ (184 : Int) ∧ (184 : Int) < 256 by decide) | exact rng_bif (u8r _) (u8r _) | apply And.intro)
    · show (bif Nat.ble (0 + s4.toNat * 1) 2 && Nat.blt 2 (0 + s4.toNat * 1 + 1) then _ else (13 : Int)) = 13 ∨ (bif Nat.ble (0 + s4.toNat * 1) 3 && Nat.blt 3 (0 + s4.toNat * 1 + 1) then _ else (184 : Int)) = 184
      by_cases h : s4.toNat = 2
      · right; rw [rng_out (by omega)]; rfl
      · left; rw [rng_out (by omega)]; rfl
  · rename_i s1 h1 q1 hq1 s2 h2 q2 hq2 s3 h3 q3 hq3 sb hb
    refine ⟨(wipA (IntKind.u8.wrap s1) (IntKind.u8.wrap s2) (IntKind.u8.wrap s3), _), ⟨⟨wipA_ok (u8r _) (u8r _) (u8r _), .inl rfl⟩, by assumption⟩, ⟨leF_e (leE_all ?_), tapeN_le⟩⟩
    repeat' (first | exact trivial | exact leC_int rfl | apply And.intro)
abbrev wipE : Entry := tapeE AC.nil (fun _ => True) (fun a (r : Fin 16 → Int) => byteOk r ∧ (vget r 2 = 13 ∨ vget r 3 = 184)) (cE (eA .u8 16)).enc
end Go.Proofs.Ytcnfjifokeancaa.AX
