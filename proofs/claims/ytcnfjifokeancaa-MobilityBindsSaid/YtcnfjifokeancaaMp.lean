/- Plain laws of bindings: the order of addresses; the program's and the reference's Bind alike. -/
import Derived.Test.YtcnfjifokeancaaMb3
namespace Go.Proofs.Ytcnfjifokeancaa.AX
set_option linter.unusedVariables false
set_option linter.unusedSimpArgs false
theorem cmpI_zero : ∀ {a b : List Int}, a.length = b.length → (cmpI a b = 0 ↔ a = b) := by
  intro a
  induction a with
  | nil =>
    intro b h
    cases b with
    | nil => simp [cmpI]
    | cons => simp at h
  | cons x a ih =>
    intro b h
    cases b with
    | nil => simp at h
    | cons y b =>
      have := ih (b := b) (by simpa using h)
      rw [cmpI]
      by_cases h1 : x < y
      · rw [if_pos h1]; simp; intro h; omega
      · rw [if_neg h1]
        by_cases h2 : y < x
        · rw [if_pos h2]; simp; intro h; omega
        · rw [if_neg h2, this]
          have : x = y := by omega
          simp [this]
theorem cmpI_rng : ∀ (a b : List Int), cmpI a b = -1 ∨ cmpI a b = 0 ∨ cmpI a b = 1 := by
  intro a
  induction a with
  | nil => intro b; cases b <;> simp [cmpI]
  | cons x a ih =>
    intro b
    cases b with
    | nil => simp [cmpI]
    | cons y b => rw [cmpI]; split; · simp
                  · split; · simp
                    · exact ih b
theorem cmpI_swap : ∀ {a b : List Int}, cmpI a b = - cmpI b a := by
  intro a
  induction a with
  | nil => intro b; cases b <;> simp [cmpI]
  | cons x a ih =>
    intro b
    cases b with
    | nil => simp [cmpI]
    | cons y b =>
      rw [cmpI, cmpI]
      by_cases h1 : x < y
      · rw [if_pos h1, if_neg (by omega), if_pos h1]
      · rw [if_neg h1]
        by_cases h2 : y < x
        · rw [if_pos h2, if_pos h2]; rfl
        · rw [if_neg h2, if_neg h2, if_neg h1]; exact ih
theorem cmpI_trans : ∀ {a b c : List Int}, cmpI a b < 0 → cmpI b c < 0 → cmpI a c < 0 := by
  intro a
  induction a with
  | nil =>
    intro b c h1 h2
    cases b with
    | nil => simp [cmpI] at h1
    | cons y b =>
      cases c with
      | nil => simp [cmpI] at h2
      | cons z c => simp [cmpI]
  | cons x a ih =>
    intro b c h1 h2
    cases b with
    | nil => simp [cmpI] at h1
    | cons y b =>
      cases c with
      | nil => simp [cmpI] at h2
      | cons z c =>
        rw [cmpI] at h1 h2 ⊢
        by_cases g1 : x < y
        · by_cases g2 : y < z
          · rw [if_pos (by omega)]; decide
          · rw [if_neg g2] at h2
            by_cases g3 : z < y
            · rw [if_pos g3] at h2; exact absurd h2 (by decide)
            · rw [if_pos (by omega)]; decide
        · rw [if_neg g1] at h1
          by_cases g2 : y < x
          · rw [if_pos g2] at h1; exact absurd h1 (by decide)
          · rw [if_neg g2] at h1
            by_cases g3 : y < z
            · rw [if_pos (by omega)]; decide
            · rw [if_neg g3] at h2
              by_cases g4 : z < y
              · rw [if_pos g4] at h2; exact absurd h2 (by decide)
              · rw [if_neg g4] at h2
                rw [if_neg (by omega), if_neg (by omega)]
                exact ih h1 h2
theorem ipL_len (a : Fin 16 → Int) : (ipL a).length = 16 := by simp [ipL]
theorem ipL_inj {a b : Fin 16 → Int} (h : ipL a = ipL b) : a = b := by
  funext q
  have h1 : (ipL a)[q.1]? = (ipL b)[q.1]? := by rw [h]
  simp only [ipL, List.getElem?_map, List.getElem?_range q.2, Option.map_some, Option.some.injEq] at h1
  rw [vget_lt _ q.2, vget_lt _ q.2] at h1
  exact h1
theorem ipC_zero {a b : Fin 16 → Int} : ipC a b = 0 ↔ a = b := by
  unfold ipC
  rw [cmpI_zero (by rw [ipL_len, ipL_len])]
  exact ⟨ipL_inj, fun h => by rw [h]⟩
theorem ipC_swap {a b : Fin 16 → Int} : ipC a b = - ipC b a := cmpI_swap
theorem ipC_trans {a b c : Fin 16 → Int} (h1 : ipC a b < 0) (h2 : ipC b c < 0) : ipC a c < 0 := cmpI_trans h1 h2
theorem ipC_self (a : Fin 16 → Int) : ipC a a = 0 := ipC_zero.2 rfl
/-! ### Bind, told otherwise -/
def rbindL (now : Int) (b : Bd) : Bool → List Bd → Option (List Bd)
  | done, [] => some (if done = true then [] else [b])
  | done, x :: l =>
    if ipC x.home b.home = 0 ∧ b.seq ≤ x.seq then none
    else (rbindL now b (done || decide (0 ≤ ipC x.home b.home)) l).map (((if 0 ≤ ipC x.home b.home ∧ done = false then [b] else []) ++ (if ipC x.home b.home ≠ 0 ∧ now < x.til then [x] else [])) ++ ·)
/-- All homes lie behind a. -/
def above (a : Fin 16 → Int) (l : List Bd) : Prop := ∀ x ∈ l, ipC a x.home < 0
def keepB (now : Int) (l : List Bd) : List Bd := l.filter fun x => decide (now < x.til)
theorem above_true {now : Int} {b : Bd} : ∀ {l : List Bd}, above b.home l → bindL now b true l = some (keepB now l) := by
  intro l
  induction l with
  | nil => intro _; rfl
  | cons x l ih =>
    intro h
    have hx := h x (by simp)
    have hne : ¬ ipEq x.home b.home = true := fun e => by rw [ipEq_iff.1 e, ipC_self] at hx; omega
    have := ih fun y hy => h y (by simp [hy])
    rw [bindL, if_neg hne]
    by_cases ht : x.til ≤ now
    · rw [if_pos ht, this]; simp [keepB, show ¬ now < x.til by omega]
    · rw [if_neg ht, if_neg (by simp), this]; simp [keepB, show now < x.til by omega]
theorem above_false {now : Int} {b : Bd} : ∀ {l : List Bd}, above b.home l → bindL now b false l = some (b :: keepB now l) := by
  intro l
  induction l with
  | nil => intro _; rfl
  | cons x l ih =>
    intro h
    have hx := h x (by simp)
    have hne : ¬ ipEq x.home b.home = true := fun e => by rw [ipEq_iff.1 e, ipC_self] at hx; omega
    have h' : above b.home l := fun y hy => h y (by simp [hy])
    rw [bindL, if_neg hne]
    by_cases ht : x.til ≤ now
    · rw [if_pos ht, ih h']; simp [keepB, show ¬ now < x.til by omega]
    · rw [if_neg ht, if_pos ⟨rfl, hx⟩, above_true h']; simp [keepB, show now < x.til by omega]
theorem rabove_true {now : Int} {b : Bd} : ∀ {l : List Bd}, above b.home l → rbindL now b true l = some (keepB now l) := by
  intro l
  induction l with
  | nil => intro _; rfl
  | cons x l ih =>
    intro h
    have hx := h x (by simp)
    have hk : 0 < ipC x.home b.home := by rw [ipC_swap]; omega
    rw [rbindL, if_neg (fun e => by omega), Bool.true_or, ih fun y hy => h y (by simp [hy]), if_neg (by simp)]
    by_cases ht : now < x.til
    · rw [if_pos ⟨by omega, ht⟩]; simp [keepB, ht]
    · rw [if_neg (fun e => ht e.2)]; simp [keepB, ht]
theorem rabove_false {now : Int} {b : Bd} : ∀ {l : List Bd}, above b.home l → rbindL now b false l = some (b :: keepB now l) := by
  intro l h
  cases l with
  | nil => rfl
  | cons x l =>
    have hx := h x (by simp)
    have hk : 0 < ipC x.home b.home := by rw [ipC_swap]; omega
    rw [rbindL, if_neg (fun e => by omega), decide_eq_true (show 0 ≤ ipC x.home b.home by omega), Bool.or_true, rabove_true fun y hy => h y (by simp [hy]), if_pos ⟨by omega, rfl⟩]
    by_cases ht : now < x.til
    · rw [if_pos ⟨by omega, ht⟩]; simp [keepB, ht]
    · rw [if_neg (fun e => ht e.2)]; simp [keepB, ht]
theorem bv_cons {p : Option (Fin 16 → Int)} {x : Bd} {l : List Bd} : bvF p (x :: l) = true ↔ bdOk x = true ∧ ordOk p x.home = true ∧ bvF (some x.home) l = true := by
  rw [bvF]; simp only [Bool.and_eq_true]; exact ⟨fun h => ⟨h.1.1, h.1.2, h.2⟩, fun h => ⟨⟨h.1, h.2.1⟩, h.2.2⟩⟩
theorem bv_above : ∀ {l : List Bd} {a : Fin 16 → Int}, bvF (some a) l = true → above a l := by
  intro l
  induction l with
  | nil => intro a _ x hx; cases hx
  | cons y l ih =>
    intro a h x hx
    obtain ⟨_, h2, h3⟩ := bv_cons.1 h
    simp only [ordOk, decide_eq_true_eq] at h2
    rcases List.mem_cons.1 hx with rfl | hx
    · exact h2
    · exact ipC_trans h2 (ih h3 x hx)
theorem bind_same {now : Int} {b : Bd} : ∀ {l : List Bd} {p : Option (Fin 16 → Int)}, bvF p l = true → rbindL now b false l = bindL now b false l := by
  intro l
  induction l with
  | nil => intro p _; rfl
  | cons x l ih =>
    intro p h
    obtain ⟨_, _, h3⟩ := bv_cons.1 h
    have hab := bv_above h3
    rcases Int.lt_trichotomy (ipC x.home b.home) 0 with hk | hk | hk
    · have hne : ¬ ipEq x.home b.home = true := fun e => by rw [ipEq_iff.1 e, ipC_self] at hk; omega
      rw [rbindL, if_neg (fun e => by omega), decide_eq_false (by omega), Bool.or_false, if_neg (fun e => by omega), ih h3, bindL, if_neg hne]
      by_cases ht : x.til ≤ now
      · rw [if_pos ht, if_neg (fun e => by omega)]; exact map_nil
      · rw [if_neg ht, if_pos ⟨by omega, by omega⟩, if_neg (fun e => by have := e.2; rw [ipC_swap] at this; omega)]; rfl
    · have he := ipC_zero.1 hk
      have hab' : above b.home l := by rw [← he]; exact hab
      rw [rbindL, bindL, if_pos (ipEq_iff.2 he)]
      by_cases hs : b.seq ≤ x.seq
      · rw [if_pos ⟨hk, hs⟩, if_pos hs]
      · rw [if_neg (fun e => hs e.2), if_neg hs, decide_eq_true (by omega), Bool.or_true, rabove_true hab', above_true hab', if_pos ⟨by omega, rfl⟩, if_neg (fun e => e.1 hk)]; rfl
    · have hlt : ipC b.home x.home < 0 := by rw [ipC_swap]; omega
      have hab' : above b.home (x :: l) := fun y hy => by
        rcases List.mem_cons.1 hy with rfl | hy
        · exact hlt
        · exact ipC_trans hlt (hab y hy)
      rw [rabove_false hab', above_false hab']
theorem keep_bv {now : Int} : ∀ {l : List Bd} {p : Option (Fin 16 → Int)}, bvF p l = true → bvF p (keepB now l) = true := by
  intro l
  induction l with
  | nil => intro p _; rfl
  | cons x l ih =>
    intro p h
    obtain ⟨h1, h2, h3⟩ := bv_cons.1 h
    by_cases ht : now < x.til
    · have e : keepB now (x :: l) = x :: keepB now l := by simp [keepB, ht]
      rw [e]
      exact bv_cons.2 ⟨h1, h2, ih h3⟩
    · have e : keepB now (x :: l) = keepB now l := by simp [keepB, ht]
      rw [e]
      refine ih ?_
      cases l with
      | nil => rfl
      | cons y l =>
        obtain ⟨g1, g2, g3⟩ := bv_cons.1 h3
        refine bv_cons.2 ⟨g1, ?_, g3⟩
        cases p with
        | none => rfl
        | some a =>
          simp only [ordOk, decide_eq_true_eq] at h2 g2 ⊢
          exact ipC_trans h2 g2
theorem keep_bv_from {now : Int} {l : List Bd} {a : Fin 16 → Int} (p : Option (Fin 16 → Int)) (h : bvF p l = true) (hab : above a l) : bvF (some a) (keepB now l) = true := by
  refine keep_bv ?_
  cases l with
  | nil => rfl
  | cons y l =>
    obtain ⟨g1, g2, g3⟩ := bv_cons.1 h
    refine bv_cons.2 ⟨g1, ?_, g3⟩
    simp only [ordOk, decide_eq_true_eq]
    exact hab y (by simp)
theorem bind_bv {now : Int} {b : Bd} (hb : bdOk b = true) : ∀ {l : List Bd} {p : Option (Fin 16 → Int)} {out : List Bd}, bvF p l = true → ordOk p b.home = true → bindL now b false l = some out → bvF p out = true := by
  intro l
  induction l with
  | nil =>
    intro p out _ ho h
    simp only [bindL, Option.some.injEq] at h
    subst h
    exact bv_cons.2 ⟨hb, ho, rfl⟩
  | cons x l ih =>
    intro p out hv ho h
    obtain ⟨h1, h2, h3⟩ := bv_cons.1 hv
    have hab := bv_above h3
    rcases Int.lt_trichotomy (ipC x.home b.home) 0 with hk | hk | hk
    · have hne : ¬ ipEq x.home b.home = true := fun e => by rw [ipEq_iff.1 e, ipC_self] at hk; omega
      rw [bindL, if_neg hne] at h
      have hox : ordOk (some x.home) b.home = true := by simp only [ordOk, decide_eq_true_eq]; exact hk
      by_cases ht : x.til ≤ now
      · rw [if_pos ht] at h
        have := ih h3 hox h
        cases out with
        | nil => rfl
        | cons y out =>
          obtain ⟨g1, g2, g3⟩ := bv_cons.1 this
          refine bv_cons.2 ⟨g1, ?_, g3⟩
          cases p with
          | none => rfl
          | some a =>
            simp only [ordOk, decide_eq_true_eq] at h2 g2 ⊢
            exact ipC_trans h2 g2
      · rw [if_neg ht, if_neg (fun e => by have := e.2; rw [ipC_swap] at this; omega)] at h
        cases ho' : bindL now b false l with
        | none => rw [ho'] at h; cases h
        | some o =>
          rw [ho'] at h
          simp only [Option.map_some, Option.some.injEq] at h
          subst h
          exact bv_cons.2 ⟨h1, h2, ih h3 hox ho'⟩
    · have he := ipC_zero.1 hk
      have hab' : above b.home l := by rw [← he]; exact hab
      rw [bindL, if_pos (ipEq_iff.2 he)] at h
      by_cases hs : b.seq ≤ x.seq
      · rw [if_pos hs] at h; cases h
      · rw [if_neg hs, above_true hab'] at h
        simp only [Option.map_some, Option.some.injEq] at h
        subst h
        exact bv_cons.2 ⟨hb, ho, keep_bv_from _ h3 hab'⟩
    · have hlt : ipC b.home x.home < 0 := by rw [ipC_swap]; omega
      have hab' : above b.home (x :: l) := fun y hy => by
        rcases List.mem_cons.1 hy with rfl | hy
        · exact hlt
        · exact ipC_trans hlt (hab y hy)
      rw [above_false hab'] at h
      simp only [Option.some.injEq] at h
      subst h
      exact bv_cons.2 ⟨hb, ho, keep_bv_from _ hv hab'⟩
theorem bind_mem {now : Int} {b : Bd} : ∀ {l : List Bd} {placed : Bool} {out : List Bd}, bindL now b placed l = some out → ∀ x ∈ out, x = b ∨ x ∈ l := by
  intro l
  induction l with
  | nil =>
    intro placed out h x hx
    simp only [bindL, Option.some.injEq] at h
    subst h
    split at hx
    · cases hx
    · exact .inl (List.mem_singleton.1 hx)
  | cons y l ih =>
    intro placed out h x hx
    rw [bindL] at h
    have go : ∀ {pl : Bool} {pre : List Bd}, (bindL now b pl l).map (pre ++ ·) = some out → (∀ z ∈ pre, z = b ∨ z ∈ y :: l) → x = b ∨ x ∈ y :: l := by
      intro pl pre hm hp
      cases ho : bindL now b pl l with
      | none => rw [ho] at hm; cases hm
      | some o =>
        rw [ho] at hm
        simp only [Option.map_some, Option.some.injEq] at hm
        subst hm
        rcases List.mem_append.1 hx with h1 | h1
        · exact hp x h1
        · rcases ih ho x h1 with h2 | h2
          · exact .inl h2
          · exact .inr (by simp [h2])
    split at h
    · split at h
      · cases h
      · exact go h (by simp)
    · split at h
      · rcases ih h x hx with h2 | h2
        · exact .inl h2
        · exact .inr (by simp [h2])
      · split at h
        · exact go h (by simp)
        · exact go h (by simp)
end Go.Proofs.Ytcnfjifokeancaa.AX
