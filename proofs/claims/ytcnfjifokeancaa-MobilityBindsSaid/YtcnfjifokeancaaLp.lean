/- Plain laws of contexts. -/
import Derived.Test.YtcnfjifokeancaaCt5
import Derived.Test.YtcnfjifokeancaaRf
namespace Go.Proofs.Ytcnfjifokeancaa.AX
set_option linter.unusedVariables false
set_option linter.unusedSimpArgs false
def mt (a : Fin 16 → Int) (now : Int) (c : Ctx) : Bool := compr c now && pEq (maskP a c.bits) (pfxOf c)
theorem valid_cons {b : Int} {c : Ctx} {l : List Ctx} : validFrom b (c :: l) = true ↔ b < c.id ∧ c.id < 16 ∧ vpf (pfxOf c) = true ∧ vt c.til = true ∧ validFrom c.id l = true := by
  simp only [validFrom, Bool.and_eq_true, decide_eq_true_eq, and_assoc]
theorem valid_lt {c : Ctx} : ∀ {l : List Ctx} {b : Int}, validFrom b l = true → c ∈ l → b < c.id ∧ vt c.til = true ∧ c.id < 16 ∧ vpf (pfxOf c) = true := by
  intro l
  induction l with
  | nil => intro b _ h; cases h
  | cons d l ih =>
    intro b hv hm
    obtain ⟨h1, h2, h3, h4, h5⟩ := valid_cons.1 hv
    rcases List.mem_cons.1 hm with rfl | hm
    · exact ⟨h1, h4, h2, h3⟩
    · obtain ⟨g1, g2⟩ := ih h5 hm
      exact ⟨by omega, g2⟩
theorem valid_mono {l : List Ctx} {b b' : Int} (h : validFrom b l = true) (hb : b' ≤ b) : validFrom b' l = true := by
  cases l with
  | nil => rfl
  | cons c l =>
    obtain ⟨h1, h2⟩ := valid_cons.1 h
    exact valid_cons.2 ⟨by omega, h2⟩
theorem fold_spec (a : Fin 16 → Int) (now : Int) : ∀ (l : List Ctx) (r : Ctx × Bool) (b : Int), validFrom b l = true → (r.2 = true → r.1.id ≤ b) →
    (r.2 = true → (foldC a now r l).2 = true ∧ (foldC a now r l = r ∨ r.1.bits < (foldC a now r l).1.bits)) ∧
    (∀ c ∈ l, mt a now c = true → (foldC a now r l).2 = true ∧ (c.bits < (foldC a now r l).1.bits ∨ (c.bits = (foldC a now r l).1.bits ∧ (foldC a now r l).1.id ≤ c.id))) ∧
    (foldC a now r l = r ∨ ((foldC a now r l).2 = true ∧ (foldC a now r l).1 ∈ l ∧ mt a now (foldC a now r l).1 = true)) := by
  intro l
  induction l with
  | nil => intro r b _ _; exact ⟨fun h => ⟨h, .inl rfl⟩, (fun c h => by cases h), .inl rfl⟩
  | cons c l ih =>
    intro r b hv hr
    obtain ⟨h1, h2, h3, h4, h5⟩ := valid_cons.1 hv
    rw [foldC]
    by_cases hb : better a now r c = true
    · rw [if_pos hb]
      obtain ⟨i1, i2, i3⟩ := ih (c, true) c.id h5 (fun _ => Int.le_refl _)
      have hmt : mt a now c = true := by
        unfold better at hb
        simp only [Bool.and_eq_true] at hb
        unfold mt
        rw [hb.1.1, hb.1.2]; rfl
      have hlt : r.2 = true → r.1.bits < c.bits := fun h => by
        unfold better at hb
        simp only [Bool.and_eq_true, h, Bool.not_true, Bool.false_or, decide_eq_true_eq] at hb
        exact hb.2
      obtain ⟨j1, j2⟩ := i1 rfl
      refine ⟨fun h => ⟨j1, .inr ?_⟩, fun d hd hm => ?_, .inr ?_⟩
      · rcases j2 with j2 | j2
        · rw [j2]; exact hlt h
        · have := hlt h
          have j2' : c.bits < (foldC a now (c, true) l).1.bits := j2
          omega
      · rcases List.mem_cons.1 hd with rfl | hd
        · refine ⟨j1, ?_⟩
          rcases j2 with j2 | j2
          · rw [j2]; exact .inr ⟨rfl, Int.le_refl _⟩
          · exact .inl j2
        · exact i2 d hd hm
      · rcases i3 with i3 | ⟨g1, g2, g3⟩
        · rw [i3]; exact ⟨rfl, List.mem_cons_self .., hmt⟩
        · exact ⟨g1, List.mem_cons_of_mem _ g2, g3⟩
    · rw [if_neg hb]
      obtain ⟨i1, i2, i3⟩ := ih r c.id h5 (fun h => by have := hr h; omega)
      refine ⟨i1, fun d hd hm => ?_, ?_⟩
      · rcases List.mem_cons.1 hd with rfl | hd
        · have hn : r.2 = true ∧ ¬ r.1.bits < d.bits := by
            unfold mt at hm
            unfold better at hb
            simp only [Bool.and_eq_true] at hm
            rw [hm.1, hm.2] at hb
            simp only [Bool.true_and, Bool.or_eq_true, Bool.not_eq_true', decide_eq_true_eq, not_or, Bool.not_eq_false] at hb
            exact hb
          obtain ⟨j1, j2⟩ := i1 hn.1
          refine ⟨j1, ?_⟩
          have := hr hn.1
          rcases j2 with j2 | j2
          · rw [j2]
            by_cases e : d.bits = r.1.bits
            · exact .inr ⟨e, by omega⟩
            · exact .inl (by omega)
          · exact .inl (by omega)
        · exact i2 d hd hm
      · rcases i3 with i3 | ⟨g1, g2, g3⟩
        · exact .inl i3
        · exact .inr ⟨g1, List.mem_cons_of_mem _ g2, g3⟩
theorem vt_rng {t : Int} : vt t = true ↔ 0 ≤ t ∧ t ≤ 1099511627776 := by simp [vt]
theorem decom_iff {c : Ctx} {now : Int} (h : vt c.til = true) : decom c now = true ↔ now < c.til + 32 := by
  have := vt_rng.1 h
  unfold decom
  rw [IntWalk.i64_in _ (by omega)]
  simp
theorem compr_iff {c : Ctx} {now : Int} : compr c now = true ↔ c.comp = true ∧ now < c.til := by simp [compr]
theorem forCom_eq {l : List Ctx} {a : Fin 16 → Int} {now : Int} (hv : validT l = true) (ht : vt now = true) : forCom l a now = foldC a now (default, false) l := if_pos ⟨hv, ht⟩
theorem forDec_eq {l : List Ctx} {id now : Int} (hv : validT l = true) (ht : vt now = true) : forDec l id now = findDec id now l := if_pos ⟨hv, ht⟩
theorem find_none {id now : Int} : ∀ {l : List Ctx} {b : Int}, validFrom b l = true → id ≤ b → findDec id now l = (default, false) := by
  intro l
  induction l with
  | nil => intro b _ _; rfl
  | cons c l ih =>
    intro b hv hb
    obtain ⟨h1, h2, h3, h4, h5⟩ := valid_cons.1 hv
    rw [findDec, if_neg (by omega)]
    exact ih h5 (by omega)
theorem find_mem {c : Ctx} {now : Int} (hd : decom c now = true) : ∀ {l : List Ctx} {b : Int}, validFrom b l = true → c ∈ l → findDec c.id now l = (c, true) := by
  intro l
  induction l with
  | nil => intro b _ h; cases h
  | cons d l ih =>
    intro b hv hm
    obtain ⟨h1, h2, h3, h4, h5⟩ := valid_cons.1 hv
    rcases List.mem_cons.1 hm with rfl | hm
    · rw [findDec, if_pos ⟨rfl, hd⟩]
    · have := valid_lt h5 hm
      rw [findDec, if_neg (by omega)]
      exact ih h5 hm
/-! ### Set -/
theorem set_valid {c : Ctx} (h2 : c.id < 16) (h3 : vpf (pfxOf c) = true) (h4 : vt c.til = true) : ∀ (l : List Ctx) (b : Int), validFrom b l = true → b < c.id → validFrom b (setL c l) = true := by
  intro l
  induction l with
  | nil => intro b _ hb; exact valid_cons.2 ⟨hb, h2, h3, h4, rfl⟩
  | cons d l ih =>
    intro b hv hb
    obtain ⟨g1, g2, g3, g4, g5⟩ := valid_cons.1 hv
    rw [setL]
    by_cases e1 : d.id < c.id
    · rw [if_pos e1]
      exact valid_cons.2 ⟨g1, g2, g3, g4, ih d.id g5 e1⟩
    · rw [if_neg e1]
      by_cases e2 : d.id = c.id
      · rw [if_pos e2]
        exact valid_cons.2 ⟨hb, h2, h3, h4, by rw [← e2]; exact g5⟩
      · rw [if_neg e2]
        exact valid_cons.2 ⟨hb, h2, h3, h4, valid_cons.2 ⟨by omega, g2, g3, g4, g5⟩⟩
theorem set_find_ne {c : Ctx} {id now : Int} (hid : id ≠ c.id) : ∀ l : List Ctx, findDec id now (setL c l) = findDec id now l := by
  intro l
  induction l with
  | nil =>
    show findDec id now [c] = findDec id now []
    simp only [findDec]
    rw [if_neg (fun h => hid h.1.symm)]
  | cons d l ih =>
    rw [setL]
    by_cases e1 : d.id < c.id
    · rw [if_pos e1, findDec, findDec, ih]
    · rw [if_neg e1]
      by_cases e2 : d.id = c.id
      · rw [if_pos e2, findDec, findDec, if_neg (fun h => hid h.1.symm), if_neg (fun h => hid (by omega))]
      · rw [if_neg e2, findDec, if_neg (fun h => hid h.1.symm)]
theorem set_find_eq {c : Ctx} {now : Int} : ∀ (l : List Ctx) (b : Int), validFrom b l = true → findDec c.id now (setL c l) = if decom c now = true then (c, true) else (default, false) := by
  intro l
  have fin : ∀ (l : List Ctx), findDec c.id now l = (default, false) → findDec c.id now (c :: l) = if decom c now = true then (c, true) else (default, false) := fun l h => by
    rw [findDec]
    by_cases hd : decom c now = true
    · rw [if_pos ⟨rfl, hd⟩, if_pos hd]
    · rw [if_neg (fun h => hd h.2), if_neg hd, h]
  induction l with
  | nil => intro b _; exact fin [] rfl
  | cons d l ih =>
    intro b hv
    obtain ⟨g1, g2, g3, g4, g5⟩ := valid_cons.1 hv
    rw [setL]
    by_cases e1 : d.id < c.id
    · rw [if_pos e1, findDec, if_neg (by omega)]
      exact ih d.id g5
    · rw [if_neg e1]
      by_cases e2 : d.id = c.id
      · rw [if_pos e2]
        exact fin l (find_none g5 (by omega))
      · rw [if_neg e2]
        refine fin (d :: l) ?_
        rw [findDec, if_neg (by omega)]
        exact find_none g5 (by omega)
theorem set_len {c : Ctx} : ∀ l : List Ctx, (setL c l).length ≤ l.length + 1 := by
  intro l
  induction l with
  | nil => simp [setL]
  | cons d l ih =>
    rw [setL]
    split
    · simp only [List.length_cons]; omega
    · split <;> simp
/-! ### Expire -/
theorem keep_valid {now : Int} : ∀ (l : List Ctx) (b : Int), validFrom b l = true → validFrom b (keepF now l) = true := by
  intro l
  induction l with
  | nil => intro b _; rfl
  | cons c l ih =>
    intro b hv
    obtain ⟨g1, g2, g3, g4, g5⟩ := valid_cons.1 hv
    rw [keepF]
    split
    · exact valid_cons.2 ⟨g1, g2, g3, g4, ih c.id g5⟩
    · exact valid_mono (ih c.id g5) (by omega)
theorem keep_fold {a : Fin 16 → Int} {now later : Int} (hl : now ≤ later) : ∀ (l : List Ctx) (r : Ctx × Bool) (b : Int), validFrom b l = true → foldC a later r (keepF now l) = foldC a later r l := by
  intro l
  induction l with
  | nil => intro r b _; rfl
  | cons c l ih =>
    intro r b hv
    obtain ⟨g1, g2, g3, g4, g5⟩ := valid_cons.1 hv
    rw [keepF, foldC]
    by_cases hd : decom c now = true
    · rw [if_pos hd, foldC]
      have hb : better a later r { c with comp := compr c now } = better a later r c := by
        have hc : compr { c with comp := compr c now } later = compr c later := by
          rw [Bool.eq_iff_iff, compr_iff, compr_iff]
          show (c.comp = true ∧ now < c.til) ∧ later < c.til ↔ _
          rw [compr_iff]
          constructor
          · rintro ⟨⟨h, _⟩, h2⟩; exact ⟨h, h2⟩
          · rintro ⟨h, h2⟩; exact ⟨⟨h, by omega⟩, h2⟩
        unfold better
        rw [hc]; rfl
      rw [hb]
      by_cases hbt : better a later r c = true
      · have he : ({ c with comp := compr c now } : Ctx) = c := by
          have hc : compr c later = true := by
            unfold better at hbt
            simp only [Bool.and_eq_true] at hbt
            exact hbt.1.1
          obtain ⟨h1, h2⟩ := compr_iff.1 hc
          have : compr c now = c.comp := by rw [h1]; exact compr_iff.2 ⟨h1, by omega⟩
          cases c
          simp only at this
          simp only [this]
        rw [if_pos hbt, if_pos hbt, he]
        exact ih _ c.id g5
      · rw [if_neg hbt, if_neg hbt]
        exact ih _ c.id g5
    · rw [if_neg hd]
      have hc : ¬ better a later r c = true := fun h => by
        unfold better at h
        simp only [Bool.and_eq_true] at h
        obtain ⟨_, h2⟩ := compr_iff.1 h.1.1
        exact hd ((decom_iff g4).2 (by omega))
      rw [if_neg hc]
      exact ih _ c.id g5
structure Agree (x y : Ctx × Bool) : Prop where
  b : x.2 = y.2
  i : x.1.id = y.1.id
  p : pfxOf x.1 = pfxOf y.1
  t : x.1.til = y.1.til
theorem keep_find {id now later : Int} (hl : now ≤ later) : ∀ (l : List Ctx) (b : Int), validFrom b l = true → Agree (findDec id later l) (findDec id later (keepF now l)) := by
  intro l
  induction l with
  | nil => intro b _; exact ⟨rfl, rfl, rfl, rfl⟩
  | cons c l ih =>
    intro b hv
    obtain ⟨g1, g2, g3, g4, g5⟩ := valid_cons.1 hv
    rw [keepF, findDec]
    by_cases hd : decom c now = true
    · rw [if_pos hd, findDec]
      by_cases h : c.id = id ∧ decom c later = true
      · rw [if_pos h, if_pos (show ({ c with comp := compr c now } : Ctx).id = id ∧ decom { c with comp := compr c now } later = true from h)]
        exact ⟨rfl, rfl, rfl, rfl⟩
      · rw [if_neg h, if_neg (show ¬ (({ c with comp := compr c now } : Ctx).id = id ∧ decom { c with comp := compr c now } later = true) from h)]
        exact ih c.id g5
    · rw [if_neg hd]
      rw [if_neg (fun h => hd ((decom_iff g4).2 (by have := (decom_iff g4).1 h.2; omega)))]
      exact ih c.id g5
theorem keep_len {now : Int} : ∀ l : List Ctx, (keepF now l).length ≤ l.length := by
  intro l
  induction l with
  | nil => simp [keepF]
  | cons c l ih =>
    rw [keepF]
    split <;> simp only [List.length_cons] <;> omega
end Go.Proofs.Ytcnfjifokeancaa.AX
