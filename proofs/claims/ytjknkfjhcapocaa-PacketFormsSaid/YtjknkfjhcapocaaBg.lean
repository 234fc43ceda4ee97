/- Codes of structs that end in a slice, and of slices of slices. -/
import Derived.Test.YtjknkfjhcapocaaGe
namespace Go.Proofs.Ytjknkfjhcapocaa.AX
open Go.RowKit
set_option linter.unusedVariables false
set_option linter.unusedSimpArgs false
/-- The cells of a struct: flat ones, then a last one. -/
def tailC {α : Type} (E : Elem α) (a : α) (last : CV) (j : Nat) : CV := bif Nat.blt j E.sz then E.cell a j else last
theorem tailC_lt {α : Type} {E : Elem α} {a : α} {last : CV} {j : Nat} (h : j < E.sz) : tailC E a last j = E.cell a j := by unfold tailC; rw [blt_lt h]; rfl
theorem tailC_end {α : Type} {E : Elem α} {a : α} {last : CV} : tailC E a last E.sz = last := by unfold tailC; rw [blt_self]; rfl
def cTail {α β : Type} [Inhabited β] (E : Elem α) (F : Elem β) (hsz : 0 < F.sz) : Codec (α × List β) where
  enc a := .e (.agg (E.sz + 1) (tailC E a.1 (.sl false a.2.length F.sz (rowF F a.2))))
  dec H x := (ga (E.sz + 1) x).bind fun f => bif E.ok f then
    match srcOf H F.sz (.e (.c (f E.sz))) with
    | some ⟨n, g, p, rd⟩ => some ((E.rd f, toL F n g), both p (some (∀ i, i < n → F.ok (g i) = true)), rd)
    | none => none
    else none
  sound H H' x a p rd h hp hh := by
    obtain ⟨f, h1, h⟩ := bind_some h
    obtain ⟨hk, h⟩ : E.ok f = true ∧ _ = some (a, p, rd) := by
      cases hb : E.ok f with
      | true => rw [hb] at h; exact ⟨rfl, h⟩
      | false => rw [hb] at h; cases h
    split at h
    · rename_i n g q rd' hs
      injection h with h
      injection h with h h'
      injection h' with h' h''
      subst h h' h''
      obtain ⟨q1, q2⟩ := both_ok.1 hp
      rw [ga_eq h1]
      have hl := bo_sl hsz (srcOf_congr hs hh) q1 q2
      rintro cx r w v st ⟨cs, rfl, c1, c2⟩
      refine ⟨cs, rfl, c1, fun i u hu => ?_⟩
      have hi : i < E.sz + 1 := by rw [← c1]; exact (Array.getElem?_eq_some_iff.1 hu).1
      have h3 := c2 i u hu
      by_cases he : i = E.sz
      · subst he
        rw [tailC_end]
        exact hl cx r w u st h3
      · rw [tailC_lt (by omega)]
        rw [E.ok_eq f hk i (by omega)] at h3
        exact E.flat _ _ _ _ _ _ _ _ _ _ _ h3
    · cases h
/-- Such a struct as a result. -/
def tailR {α β : Type} [Inhabited β] (E : Elem α) (F : Elem β) (a : α × List β) : EV := .agg (E.sz + 1) (tailC E a.1 (slR F a.2))
theorem leE_tail {c : Wc} {α : Type} {E : Elem α} {g : Nat → CV} {a : α} {last : CV} {n : Nat} (hn : n = E.sz + 1) (h1 : ∀ j, j < E.sz → LeC c (g j) (E.cell a j)) (h2 : LeC c (g E.sz) last) : LeE c (.agg n g) (.agg (E.sz + 1) (tailC E a last)) := by
  subst hn
  refine leE_agg rfl fun i hi => ?_
  by_cases he : i = E.sz
  · subst he; rw [tailC_end]; exact h2
  · rw [tailC_lt (by omega)]; exact h1 i (by omega)
theorem nfE_tail {α β : Type} [Inhabited β] {E : Elem α} {F : Elem β} {a : α × List β} : NFE (tailR E F a) := by
  rintro r r' X W w v ⟨cs, rfl, h1, h2⟩
  refine ⟨cs, rfl, h1, fun i u hu => ?_⟩
  have h3 := h2 i u hu
  have hi : i < E.sz + 1 := by rw [← h1]; exact (Array.getElem?_eq_some_iff.1 hu).1
  by_cases he : i = E.sz
  · subst he
    rw [tailC_end] at h3 ⊢
    exact nf_sl (fun i _ j _ => (F.flat _ _).nf) _ _ _ _ _ _ h3
  · rw [tailC_lt (by omega)] at h3 ⊢
    exact (E.flat _ _).nf _ _ _ _ _ _ h3
theorem rd_tail {α : Type} {E : Elem α} (hE : ∀ a, E.rd (E.cell a) = a) (hrd : ∀ f g : Nat → CV, (∀ j, j < E.sz → f j = g j) → E.rd f = E.rd g) (a : α) (last : CV) : E.rd (tailC E a last) = a := by
  rw [hrd _ (E.cell a) fun j hj => tailC_lt hj, hE]

/-! ### Slices of slices -/
def rowFF {β : Type} [Inhabited β] (F : Elem β) (L : List (List β)) (i _j : Nat) : CV := .sl false (L.getD i []).length F.sz (rowF F (L.getD i []))
/-- Reads the elements q, q+1, .. (n of them) of a row of slices. -/
def readLL {β : Type} (F : Elem β) (H : Hp) (f : Nat → CV) : Nat → Nat → Option (List (List β) × Option Prop × List Nat)
  | 0, _ => some ([], none, [])
  | n + 1, q =>
    match srcOf H F.sz (.e (.c (f q))) with
    | some ⟨m, g, p, rd⟩ =>
      match readLL F H f n (q + 1) with
      | some (L, p', rd') => some (toL F m g :: L, both (both p (some (∀ i, i < m → F.ok (g i) = true))) p', rd ++ rd')
      | none => none
    | none => none
theorem readLL_ok {β : Type} [Inhabited β] {F : Elem β} (hsz : 0 < F.sz) {H H' : Hp} {f : Nat → CV} : ∀ (n q : Nat) (L : List (List β)) (p : Option Prop) (rd : List Nat), readLL F H f n q = some (L, p, rd) → preOk p → (∀ k ∈ rd, hget H k = hget H' k) →
    L.length = n ∧ ∀ i, i < n → Bo H' rd (.e (.c (f (q + i)))) (.e (.c (rowFF F L i 0))) := by
  intro n
  induction n with
  | zero => intro q L p rd h _ _; injection h with h; injection h with h _; subst h; exact ⟨rfl, fun i hi => by omega⟩
  | succ n ih =>
    intro q L p rd h hp hh
    unfold readLL at h
    split at h
    · rename_i m g p0 rd0 hs
      split at h
      · rename_i L' p' rd' hL
        injection h with h
        injection h with h1 h2
        injection h2 with h2 h3
        subst h1 h2 h3
        obtain ⟨a1, a2⟩ := both_ok.1 hp
        obtain ⟨b1, b2⟩ := both_ok.1 a1
        obtain ⟨c1, c2⟩ := ih (q + 1) L' p' rd' hL a2 (fun k hk => hh k (List.mem_append_right _ hk))
        refine ⟨by simp [c1], fun i hi => ?_⟩
        cases i with
        | zero => exact (bo_sl hsz (srcOf_congr hs (fun k hk => hh k (List.mem_append_left _ hk))) b1 b2).more fun k hk => List.mem_append_left _ hk
        | succ i =>
          have := (c2 i (by omega)).more (rd' := rd0 ++ rd') fun k hk => List.mem_append_right _ hk
          rw [show q + (i + 1) = q + 1 + i by omega]
          exact this
      · cases h
    · cases h
theorem sub_bo {H : Hp} {rd rd' : List Nat} {x y : FV} (h : Bo H rd x y) (hs : ∀ k ∈ rd, k ∈ rd') : Bo H rd' x y := h.more hs
/-- A slice of slices that is lent for the call; its length is a literal. -/
def cLL {β : Type} [Inhabited β] (F : Elem β) (hsz : 0 < F.sz) : Codec (List (List β)) where
  enc L := .e (.c (.sl false L.length 1 (rowFF F L)))
  dec H x :=
    match srcOf H 1 x with
    | some ⟨n, g, p, rd⟩ =>
      match readLL F H (fun i => g i 0) n 0 with
      | some (L, p', rd') => some (L, both p p', rd ++ rd')
      | none => none
    | none => none
  sound H H' x a p rd h hp hh := by
    split at h
    · rename_i n g p0 rd0 hs
      split at h
      · rename_i L p' rd' hL
        injection h with h
        injection h with h1 h2
        injection h2 with h2 h3
        subst h1 h2 h3
        obtain ⟨a1, a2⟩ := both_ok.1 hp
        obtain ⟨c1, c2⟩ := readLL_ok hsz n 0 L p' rd' hL a2 (fun k hk => hh k (List.mem_append_right _ hk))
        have hs' := srcOf_congr hs (H' := H') (fun k hk => hh k (List.mem_append_left _ hk))
        have key : ∀ i, i < n → ∀ cx r w u, St cx r H' w → (g i 0).rel r cx.X (wr r H') w u → (rowFF F L i 0).rel (fun _ => none) (fun b => cx.X b ∨ wr r H' b) (wrBut r H' (rd0 ++ rd')) w u := fun i hi cx r w u st hu => by
          have := (c2 i hi).more (rd' := rd0 ++ rd') (fun k hk => List.mem_append_right _ hk)
          rw [Nat.zero_add] at this
          exact this cx r w u st hu
        intro cx r w v st hx
        refine (?_ : CV.rel (fun _ => none) (fun b => cx.X b ∨ wr r H' b) (wrBut r H' (rd0 ++ rd')) w (.sl false L.length 1 (rowFF F L)) v)
        rw [c1]
        unfold srcOf at hs'
        split at hs'
        · rename_i sh n' s f
          obtain ⟨hb, hs'⟩ := cond_some hs'
          injection hs' with h1 h2 h3 h4
          subst h1 h2 h3 h4
          obtain ⟨a, cap, rfl, d1, d2⟩ := hx
          refine ⟨a, cap, rfl, d1, fun h0 => ?_⟩
          obtain ⟨ad, rfl, hsp, ho, hX, hlt, hc⟩ := d2 h0
          refine ⟨ad, rfl, hsp, fun ⟨k, e, x, q1, q2, q3, _⟩ => ho ⟨k, e, x, q1, q2, q3⟩, (fun h => by cases h), hlt, fun i hi j hj => ?_⟩
          have hsE : s = 1 := Nat.eq_of_beq_eq_true hb
          subst hsE
          have hj0 : j = 0 := by omega
          subst hj0
          obtain ⟨u, hu, hr⟩ := hc i hi 0 hj
          exact ⟨u, hu, key i hi cx r w u st hr⟩
        · injection hs' with hs'
          injection hs' with h1 h2 h3 h4
          subst h1 h2 h3 h4
          have : v = .slice none 0 0 := hx
          subst this
          exact ⟨none, 0, rfl, Nat.le_refl _, fun h => absurd h (Nat.lt_irrefl _)⟩
        · rename_i k i n'
          split at hs'
          · rename_i et en es ev f he
            obtain ⟨hb, hs'⟩ := cond_some hs'
            injection hs' with h1 h2 h3 h4
            subst h1 h2 h3 h4
            have hsE : es = 1 := Nat.eq_of_beq_eq_true hb
            subst hsE
            obtain ⟨a, cap, rfl, d1, d2⟩ := hx
            refine ⟨a, cap, rfl, d1, fun h0 => ?_⟩
            obtain ⟨x, hx, rfl, _⟩ := d2 (by omega)
            have hp' : i + n' ≤ en := a1
            obtain ⟨_, _, hxs, _⟩ := blk_at st he hx
            simp only at hxs
            refine ⟨⟨x.b, i * x.sz, none⟩, rfl, rfl, ?_, (fun h => by cases h), (st.dom k x hx).1, fun q hq j hj => ?_⟩
            · rintro ⟨k2, e2, y, q1, q2, q3, q4⟩
              have := st.inj k2 k e2 _ y x q1 he q2 hx q3
              exact q4 (by rw [this]; exact List.mem_append_left _ (List.mem_singleton.2 rfl))
            · have hj0 : j = 0 := by omega
              subst hj0
              obtain ⟨u, hu, hr⟩ := blk_cell st he hx (i := i + q) (j := 0) (show i + q < en by omega) (show 0 < 1 by omega)
              refine ⟨u, ?_, key q hq cx r w u st hr⟩
              rw [← hu]
              show w.cell? ⟨x.b, i * x.sz + (q * 1 + 0), none⟩ = _
              rw [show i * x.sz + (q * 1 + 0) = (i + q) * x.sz + 0 by rw [hxs]; omega]
          · cases hs'
        · rename_i k i j0 n' s
          split at hs'
          · rename_i et en es ev f he
            obtain ⟨hb, hs'⟩ := cond_some hs'
            injection hs' with h1 h2 h3 h4
            subst h1 h2 h3 h4
            have hsE : s = 1 := Nat.eq_of_beq_eq_true hb
            subst hsE
            obtain ⟨a, cap, rfl, d1, d2⟩ := hx
            refine ⟨a, cap, rfl, d1, fun h0 => ?_⟩
            obtain ⟨x, hx, rfl⟩ := d2 h0
            have hp' : i < en ∧ j0 + n' * 1 ≤ es := a1
            refine ⟨⟨x.b, i * x.sz + j0, none⟩, rfl, rfl, ?_, (fun h => by cases h), (st.dom k x hx).1, fun q hq j hj => ?_⟩
            · rintro ⟨k2, e2, y, q1, q2, q3, q4⟩
              have := st.inj k2 k e2 _ y x q1 he q2 hx q3
              exact q4 (by rw [this]; exact List.mem_append_left _ (List.mem_singleton.2 rfl))
            · have hj0 : j = 0 := by omega
              subst hj0
              obtain ⟨u, hu, hr⟩ := blk_cell st he hx (i := i) (j := j0 + (q * 1 + 0)) (show i < en from hp'.1) (show j0 + (q * 1 + 0) < es by omega)
              refine ⟨u, ?_, key q hq cx r w u st hr⟩
              rw [← hu]
              show w.cell? ⟨x.b, i * x.sz + j0 + (q * 1 + 0), none⟩ = _
              rw [Nat.add_assoc]
          · cases hs'
        · cases hs'
      · cases h
    · cases h
theorem cl_ll {β : Type} [Inhabited β] (F : Elem β) (L : List (List β)) : Cl (.sl false L.length 1 (rowFF F L)) := cl_sl fun i _ j _ => cl_sl fun i' _ j' _ => (F.flat _ _).cl
end Go.Proofs.Ytjknkfjhcapocaa.AX
