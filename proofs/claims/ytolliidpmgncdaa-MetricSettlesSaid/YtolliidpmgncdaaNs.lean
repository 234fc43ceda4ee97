/- Layer 24: spoiled, chooses (by AX2). -/
import Derived.Test.YtolliidpmgncdaaNc
namespace Go.Proofs.Ytolliidpmgncdaa.AX
open Go.RowKit
set_option linter.unusedVariables false
set_option linter.unusedSimpArgs false
def LY1 : CsL := (60, some cloneE) :: LTb
theorem LY1_ok : AllOk Try.prog LY1 := ⟨cloneE_ok, LTb_ok⟩
theorem selOkO {c : Bool} {x y : Nat → CV} (h1 : c = true → eOp.ok x = true) (h2 : c = false → eOp.ok y = true) : eOp.ok (fun j => selC c (x j) (y j)) = true := by
  cases c with
  | true => simp only [selC_true]; exact h1 rfl
  | false => simp only [selC_false]; exact h2 rfl
theorem ok_op {g : Nat → CV} : eOp.ok g = true ↔ isK .u64 (g 0) = true ∧ isK .i64 (g 1) = true := by
  show (isK .u64 (g 0) && isK .i64 (g 1)) = true ↔ _
  simp only [Bool.and_eq_true]
theorem op_nb {g : Nat → CV} {off n : Nat} {v : Int} (ho : off = 0) (hn : n = 1) (h : eOp.ok g = true) : eOp.ok (ovw false 2 g off n fun _ => .int .u64 v) = true := by
  subst ho hn
  exact ok_op.2 ⟨rfl, (ok_op.1 h).2⟩
theorem op_cost {g : Nat → CV} {off n : Nat} {v : Int} (ho : off = 1) (hn : n = 1) (h : eOp.ok g = true) : eOp.ok (ovw false 2 g off n fun _ => .int .i64 v) = true := by
  subst ho hn
  exact ok_op.2 ⟨(ok_op.1 h).1, rfl⟩
theorem fin_ops {H : Hp} {k n : Nat} {f : Nat → Nat → CV} {t : TypeId} {N : Nat} {l : List Int} {q' : Int} (hk : hget H k = some ⟨t, n, 2, false, f⟩) (hf : ∀ i, i < n → eOp.ok (f i) = true) (hn : n ≤ 8796093022208) (ht : TapeOk N (rI l) q') (hH : hget H 0 = some (tapeN N (rI l) q')) (hk0 : Nat.beq k 0 = false) :
    ∃ r : List Opt × Int, (r.1.length ≤ 8796093022208 ∧ TapeOk N (rI l) r.2) ∧ FinM (.e (.c (slR eOp r.1))) (tapeN N (rI l) r.2) (.e (.c (.os k 0 n))) H := by
  refine ⟨(toL eOp n f, q'), ⟨by show (toL eOp n f).length ≤ _; rw [toL_len]; exact hn, ht⟩, ⟨leF_c ?_, ?_⟩⟩
  · refine leC_os_sl hk ?_ rfl (toL_len _ _ _).symm (by simp) fun q hq j hj => ?_
    · show (!([0].any (Nat.beq k))) = true
      simp only [List.any_cons, List.any_nil, Bool.or_false, hk0, Bool.not_false]
    · have e : rowF eOp (toL eOp n f) q j = f q j := by
        unfold rowF
        rw [toL_get hq]
        exact (eOp.ok_eq _ (hf q hq) j hj).symm
      rw [e, Nat.zero_add]
      show LeC _ (f q j) (f q j)
      rw [eOp.ok_eq _ (hf q hq) j hj]
      exact (eOp.flat _ _).le
  · unfold WkE
    simp only [hH]
    exact tapeN_le
set_option maxHeartbeats 4000000 in
set_option maxRecDepth 10000 in
theorem spoil24_ok (n : Nat) (l : List Int) (q : Int) (L : List Opt) (ht : TapeOk n (rI l) q) (h32 : L.length ≤ 16) :
    ∃ (r : List Opt) (q' : Int), r.length ≤ 8796093022208 ∧ TapeOk n (rI l) q' ∧ MethOk Try.prog 42 [(cSl eOp eOp_sz).enc L] (tapeN n (rI l) q) (.e (.c (slR eOp r))) (tapeN n (rI l) q') := by
  refine tape_intro (enc := fun r => .e (.c (slR eOp r))) (wd := 1) (Q := mkQ LY1) (by decide) tysOk (q_of LY1_ok) mixed Try.func42 rfl _ (by show 1 + 1 ≤ _; decide) (fun _ => nff_op) ?_
  repeat' (first | (apply And.intro <;> intro hc <;> (first | exact Bool.noConfusion hc | (simp only [decide_eq_true_eq, decide_eq_false_iff_not, Bool.not_eq_true', Bool.not_eq_false', beq_iff_eq, beq_eq_false_iff_ne, bne_iff_ne, bne_eq_false_iff_eq, Bool.true_eq_false, Bool.false_eq_true, ne_eq, not_true_eq_false] at hc <;> first | exact absurd rfl hc | skip) | skip)) | (refine And.intro (by first | exact trivial | decide | omega | (dsimp only; omega) | exact fun _ _ => rfl | exact ⟨by assumption, by first | exact trivial | decide | omega | (dsimp only; omega)⟩) ?_) | (apply And.intro) | (intro s hs; (first | (have hs' : s = L := hs.trans (toL_op L); clear hs; cases hs') | skip)))
  · dsimp only; rw [toL_op]; omega
  · rename_i ix hix q1 hq1 c4 hc4
    have hix' : 0 ≤ ix ∧ ix < ((L.length + 1 : Nat) : Int) := hix
    refine fin_ops rfl (fun i hi => ?_) (by omega) (by assumption) rfl rfl
    have hi' : i < L.length + 1 := hi
    refine selOkO (fun h0 => ?_) (fun h0 => ?_)
    · refine op_nb rfl rfl ?_
      refine selOkO (fun h => ?_) (fun h => ?_)
      · exact eOp_ok _
      · have h2 := blt_ge h
        refine selOkO (fun h' => ?_) (fun h' => ?_)
        · exact rfl
        · exfalso
          rw [beq_of (by omega)] at h'; cases h'
    · skip
      refine selOkO (fun h => ?_) (fun h => ?_)
      · exact eOp_ok _
      · have h2 := blt_ge h
        refine selOkO (fun h' => ?_) (fun h' => ?_)
        · exact rfl
        · exfalso
          rw [beq_of (by omega)] at h'; cases h'
  · rename_i ix hix q1 hq1 c4 hc4 x1
    have hix' : 0 ≤ ix ∧ ix < ((L.length + 1 : Nat) : Int) := hix
    refine fin_ops rfl (fun i hi => ?_) (by omega) (by assumption) rfl rfl
    have hi' : i < L.length + 1 := hi
    refine selOkO (fun h0 => ?_) (fun h0 => ?_)
    · refine op_cost rfl rfl ?_
      refine selOkO (fun h => ?_) (fun h => ?_)
      · exact eOp_ok _
      · have h2 := blt_ge h
        refine selOkO (fun h' => ?_) (fun h' => ?_)
        · exact rfl
        · exfalso
          rw [beq_of (by omega)] at h'; cases h'
    · skip
      refine selOkO (fun h => ?_) (fun h => ?_)
      · exact eOp_ok _
      · have h2 := blt_ge h
        refine selOkO (fun h' => ?_) (fun h' => ?_)
        · exact rfl
        · exfalso
          rw [beq_of (by omega)] at h'; cases h'
  · rename_i ix hix q1 hq1 c4 hc4 x1 x2
    have hix' : 0 ≤ ix ∧ ix < ((L.length + 1 : Nat) : Int) := hix
    refine fin_ops rfl (fun i hi => ?_) (by omega) (by assumption) rfl rfl
    have hi' : i < L.length + 1 := hi
    refine selOkO (fun h0 => ?_) (fun h0 => ?_)
    · refine op_cost rfl rfl ?_
      refine selOkO (fun h => ?_) (fun h => ?_)
      · exact eOp_ok _
      · have h2 := blt_ge h
        refine selOkO (fun h' => ?_) (fun h' => ?_)
        · exact rfl
        · exfalso
          rw [beq_of (by omega)] at h'; cases h'
    · skip
      refine selOkO (fun h => ?_) (fun h => ?_)
      · exact eOp_ok _
      · have h2 := blt_ge h
        refine selOkO (fun h' => ?_) (fun h' => ?_)
        · exact rfl
        · exfalso
          rw [beq_of (by omega)] at h'; cases h'
  · rename_i ix hix q1 hq1 c4 hc4 x1 x2
    refine fin_ops rfl (fun i hi => ?_) (by omega) (by assumption) rfl rfl
    have hi' : i < L.length + 1 + 1 := hi
    refine selOkO (fun h0 => ?_) (fun h0 => ?_)
    · have hi2 := Nat.le_of_ble_eq_true h0
      refine selOkO (fun h => ?_) (fun h => ?_)
      · exact eOp_ok _
      · have h2 := blt_ge h
        refine selOkO (fun h' => ?_) (fun h' => ?_)
        · exact rfl
        · exfalso
          rw [beq_of (by omega)] at h'; cases h'
    · have hi2 := blt_ge h0
      refine selOkO (fun h1 => ?_) (fun h1 => ?_)
      · exact rfl
      · exfalso
        rw [beq_of (by omega)] at h1; cases h1
theorem fold_rng (nb : Int) : ∀ (l : List Opt) (b c : Opt), (∀ o ∈ l, o.nb ≠ 0 ∧ 0 ≤ o.cost ∧ o.cost ≤ 65535) → (0 ≤ b.cost ∧ b.cost ≤ 65535) → (0 ≤ c.cost ∧ c.cost ≤ 65535) → (0 ≤ (l.foldl (cstep nb) (b, c)).1.cost ∧ (l.foldl (cstep nb) (b, c)).1.cost ≤ 65535) ∧ (0 ≤ (l.foldl (cstep nb) (b, c)).2.cost ∧ (l.foldl (cstep nb) (b, c)).2.cost ≤ 65535) := by
  intro l
  induction l with
  | nil => intro b c _ hb hc; exact ⟨hb, hc⟩
  | cons o l ih =>
    intro b c hm hb hc
    have ho := hm o (by simp)
    rw [List.foldl_cons]
    have e : cstep nb (b, c) o = (if o.cost < b.cost then o else b, if o.cost < 65535 ∧ o.nb = nb then o else c) := rfl
    rw [e]
    refine ih _ _ (fun x hx => hm x (by simp [hx])) ?_ ?_
    · split
      · exact ho.2
      · exact hb
    · split
      · exact ho.2
      · exact hc
theorem choose_valid {now : Int} {old : Cho} {l : List Opt} (h : (chooseF now old l).2 = 0) : vchoice (chooseF now old l).1 = true := by
  unfold chooseF at h ⊢
  split at h
  · rename_i h1
    rw [if_pos h1]
    split at h
    · rename_i h2
      rw [if_pos h2]
      obtain ⟨r1, r2⟩ := fold_rng old.nb l n0 n0 (vop_mem h1.2) (by simp [n0]) (by simp [n0])
      have hbt := ch_bt h1.1
      show vchoice (pickF now old (cfold old.nb l).1 (cfold old.nb l).2) = true
      have e1 : mvl (cfold old.nb l).1.cost = true := mvl_rng.2 r1
      have e2 : mvl (cfold old.nb l).2.cost = true := mvl_rng.2 r2
      have hv := h1.1
      unfold vchoice at hv
      simp only [Bool.and_eq_true] at hv
      unfold pickF
      repeat' split
      all_goals simp [vchoice, e1, e2, h2]
      all_goals first
        | (have := hv.2; simpa using this)
        | skip
    · exact absurd h (by decide)
  · exact absurd h (by decide)
theorem chC_refl (c : Cho) : eqFrom (eCh.cell c) (eCh.cell c) 3 0 = true := by
  show ((c.nb == c.nb) && ((c.cost == c.cost) && ((c.bt == c.bt) && true))) = true
  simp
theorem ch_congr {now : Int} {c c' : Cho} {l l' : List Opt} (h1 : c = c') (h2 : l = l') : chooseF now c l = chooseF now c' l' := by rw [h1, h2]
set_option maxHeartbeats 4000000 in
set_option maxRecDepth 10000 in
theorem chooses_ok (now : Int) (c : Cho) (l : List Opt) (hn : l.length ≤ 8796093022208) : PureOk Try.prog 41 [(cI .i64).enc now, (cE eCh).enc c, (cSl eOp eOp_sz).enc l] (cB.enc true) := by
  have hv := @choose_valid now c l
  refine pure_intro (wd := 1) (Q := mkQ LX3) (by decide) tysOk (q_of LX3_ok) mixed Try.func41 rfl _ (by show 3 ≤ _; decide) _ ?_
  repeat' (first | (apply And.intro <;> intro hc <;> (first | exact Bool.noConfusion hc | (simp only [decide_eq_true_eq, decide_eq_false_iff_not, Bool.not_eq_true', Bool.not_eq_false', beq_iff_eq, beq_eq_false_iff_ne, bne_iff_ne, bne_eq_false_iff_eq, Bool.true_eq_false, Bool.false_eq_true, ne_eq, not_true_eq_false] at hc <;> first | exact absurd rfl hc | skip) | skip)) | (refine And.intro (by first | exact trivial | decide | omega | (dsimp only; omega) | exact fun _ _ => rfl | exact ⟨by assumption, by first | exact trivial | decide | omega | (dsimp only; omega)⟩) ?_) | (apply And.intro) | (intro s hs; (try dsimp only at hs); (first | (have hs' : s = chooseF now c l := hs.trans (ch_congr (rd_ch c) (toL_op l))) | (have hs' : s = vopts l := hs.trans (congrArg vopts (toL_op l))) | (have hs' : s = vchoice c := hs) | (have hs' : s = vchoice (chooseF now c l).1 := hs)); clear hs; subst hs'))
  all_goals first
    | (dsimp only; rw [toL_op]; exact hn)
    | (exfalso
       have h : eqFrom (eCh.cell (chooseF now c l).1) (eCh.cell (chooseF now c l).1) 3 0 = false := by assumption
       rw [chC_refl] at h
       exact Bool.noConfusion h)
    | exact Done.mk (leF_bool rfl)
    | exact Done.mk (leF_bool (hv (by assumption)))
end Go.Proofs.Ytolliidpmgncdaa.AX
