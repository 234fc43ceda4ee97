/- Weaker values: small lemmas. -/
import Derived.Test.YtjknkfjhcapocaaBExec
namespace Go.Proofs.Ytjknkfjhcapocaa.AX
set_option linter.unusedVariables false
section
variable {c : Wc}
theorem wr_sub (hl : c.Live) {cx : Cx} {r : Ren} {b : Nat} (h : AX.wr (c.ren r) c.H' b) : AX.wr r c.H b := by
  obtain ⟨k, e', x, he, hx, rfl⟩ := h
  unfold Wc.ren at hx
  split at hx
  · rename_i k0 hk0
    obtain ⟨e, hh⟩ := hl k e' he k0 hk0
    exact ⟨k0, e, x, hh, hx, rfl⟩
  · cases hx
theorem leC_int {k : IntKind} {a b : Int} (h : a = b) : LeC c (.int k a) (.int k b) := fun _ cx r w v _ hv => by subst h; exact hv
theorem leC_bool {a b : Bool} (h : a = b) : LeC c (.bool a) (.bool b) := fun _ cx r w v _ hv => by subst h; exact hv
theorem leC_nilp : LeC c .nilp .nilp := fun _ cx r w v _ hv => hv
theorem leC_nils : LeC c .nils .nils := fun _ cx r w v _ hv => hv
theorem leC_top {x : CV} : LeC c x .top := fun _ cx r w v _ hv => rel_isCell hv
theorem ren_src {r : Ren} {k k' : Nat} (h : c.src k' = some k) : c.ren r k' = r k := by unfold Wc.ren; rw [h]
theorem leC_ptr {k k' i j : Nat} {s s' : Bool} (h : c.src k' = some k) : LeC c (.ptr k i j s) (.ptr k' i j s') := fun _ cx r w v _ ⟨b, hb, hv⟩ => ⟨b, by rw [ren_src h]; exact hb, hv⟩
theorem leC_os {k k' i n n' : Nat} (h : c.src k' = some k) (hn : n = n') : LeC c (.os k i n) (.os k' i n') := by
  subst hn
  rintro _ cx r w v _ ⟨a, cap, rfl, h1, h2⟩
  refine ⟨a, cap, rfl, h1, fun h0 => ?_⟩
  obtain ⟨x, hx, h3⟩ := h2 h0
  exact ⟨x, by rw [ren_src h]; exact hx, h3⟩
theorem leC_nils_os {k' n : Nat} (hn : n = 0) : LeC c .nils (.os k' 0 n) := by
  subst hn
  intro _ cx r w v _ hv
  have : v = .slice none 0 0 := hv
  subst this
  exact ⟨none, 0, rfl, Nat.le_refl _, fun h => absurd h (Nat.lt_irrefl _)⟩
theorem leC_nils_sl {sh : Bool} {n sz : Nat} {f : Nat → Nat → CV} (hn : n = 0) : LeC c .nils (.sl sh n sz f) := by
  subst hn
  intro _ cx r w v _ hv
  have : v = .slice none 0 0 := hv
  subst this
  exact ⟨none, 0, rfl, Nat.le_refl _, fun h => absurd h (Nat.lt_irrefl _)⟩
theorem leC_sl {sh sh' : Bool} {n n' sz sz' : Nat} {f g : Nat → Nat → CV} (hs : (sh' || c.fin) = true → sh = true) (hn : n = n') (hz : sz = sz') (h : ∀ i, i < n → ∀ j, j < sz → LeC c (f i j) (g i j)) : LeC c (.sl sh n sz f) (.sl sh' n' sz' g) := by
  subst hn hz
  rintro hl cx r w v st ⟨a, cap, rfl, h1, h3⟩
  refine ⟨a, cap, rfl, h1, fun h0 => ?_⟩
  obtain ⟨ad, rfl, hsp, ho, hX, hlt, hc⟩ := h3 h0
  refine ⟨ad, rfl, hsp, ?_, fun h => hX (hs (by rw [h]; rfl)), hlt, fun i hi j hj => ?_⟩
  · rintro (hw | ⟨hf, hx⟩)
    · exact ho (wr_sub (cx := cx) hl hw)
    · exact hX (hs (by rw [hf]; simp)) hx
  · obtain ⟨u, hu, hr⟩ := hc i hi j hj
    exact ⟨u, hu, h i hi j hj hl cx r w u st hr⟩
/-- No name that lives behind the step stands for k. -/
def Wc.dead (c : Wc) (k : Nat) : Bool := !((srcs c c.H').any (Nat.beq k))
/-- A slice of ours that is given up. -/
theorem leC_os_sl {sh : Bool} {k i n n' sz : Nat} {f : Nat → Nat → CV} {e : Ent} (he : hget c.H k = some e) (hd : c.dead k = true) (hz : e.sz = sz) (hn : n = n') (hle : i + n ≤ e.n) (h : ∀ q, q < n → ∀ j, j < sz → LeC c (e.f (i + q) j) (f q j)) : LeC c (.os k i n) (.sl sh n' sz f) := by
  subst hn hz
  rintro hl cx r w v st ⟨a, cap, rfl, h1, h2⟩
  refine ⟨a, cap, rfl, h1, fun h0 => ?_⟩
  obtain ⟨x, hx, rfl, h4⟩ := h2 (by omega)
  obtain ⟨g1, g2, g3⟩ := st.blk k e he
  rcases g3 with ⟨g3, _⟩ | ⟨y, cs, c1, c2, c3, c4, c5, c6⟩
  · rw [hx] at g3; cases g3
  · rw [hx] at c1; injection c1 with c1; subst c1
    obtain ⟨d1, d2, d3⟩ := st.dom k x hx
    refine ⟨⟨x.b, i * x.sz, none⟩, rfl, rfl, ?_, fun _ => d3, d1, fun q hq j hj => ?_⟩
    · rintro (⟨k', e', y, he', hy, hyb⟩ | ⟨_, hX⟩)
      · unfold Wc.ren at hy
        split at hy
        · rename_i k0 hk0
          obtain ⟨e0, hh⟩ := hl k' e' he' k0 hk0
          have := st.inj k0 k e0 e y x hh he hy hx hyb
          subst this
          have hm := srcs_mem hk0 he'
          have : (srcs c c.H').any (Nat.beq k0) = true := List.any_eq_true.2 ⟨k0, hm, by simp⟩
          unfold Wc.dead at hd
          rw [this] at hd; cases hd
        · cases hy
      · exact d3 hX
    · have hlt : (i + q) * e.sz + j < cs.size := by
        rw [c4, c2]
        exact idx_lt (show i + q < e.n by omega) hj c5
      refine ⟨cs[(i + q) * e.sz + j], ?_, h q hq j hj hl cx r w _ st (c6 (i + q) (by omega) j hj _ (Array.getElem?_eq_getElem hlt))⟩
      have e1 : i * x.sz + (q * e.sz + j) = (i + q) * e.sz + j := by rw [c2, Nat.add_mul]; omega
      show w.cell? ⟨x.b, i * x.sz + (q * e.sz + j), none⟩ = _
      rw [e1]
      simp [World.cell?, c3, Array.getElem?_eq_getElem hlt]
theorem leE_c {x y : CV} (h : LeC c x y) : LeE c (.c x) (.c y) := h
theorem leE_agg {n m : Nat} {f g : Nat → CV} (hn : n = m) (h : ∀ i, i < n → LeC c (f i) (g i)) : LeE c (.agg n f) (.agg m g) := by
  subst hn
  rintro hl cx r w v st ⟨cs, rfl, hs, hc⟩
  exact ⟨cs, rfl, hs, fun i u hu => h i (by rw [← hs]; exact (Array.getElem?_eq_some_iff.1 hu).1) hl cx r w u st (hc i u hu)⟩
theorem leF_e {x y : EV} (h : LeE c x y) : LeF c (.e x) (.e y) := h
theorem leF_c {x y : CV} (h : LeC c x y) : LeF c (.e (.c x)) (.e (.c y)) := h
theorem leF_top {x : FV} : LeF c x .top := fun _ _ _ _ _ _ _ => trivial
theorem leF_int {k : IntKind} {a b : Int} (h : a = b) : LeF c (.e (.c (.int k a))) (.e (.c (.int k b))) := leC_int (c := c) h
theorem leF_bool {a b : Bool} (h : a = b) : LeF c (.e (.c (.bool a))) (.e (.c (.bool b))) := leC_bool (c := c) h
theorem leF_ptr {k k' i j : Nat} {s s' : Bool} (h : c.src k' = some k) : LeF c (.e (.c (.ptr k i j s))) (.e (.c (.ptr k' i j s'))) := leC_ptr (c := c) (s := s) (s' := s') h
def LeL (c : Wc) : List EV → List EV → Prop
  | [], [] => True
  | x :: l, y :: l' => LeE c x y ∧ LeL c l l'
  | _, _ => False
theorem LeL.at : ∀ {l l' : List EV}, LeL c l l' → l.length = l'.length ∧ ∀ (i : Nat) x y, l[i]? = some x → l'[i]? = some y → LeE c x y := by
  intro l
  induction l with
  | nil =>
    intro l' h
    cases l' with
    | nil => exact ⟨rfl, fun i x y h => by cases i <;> cases h⟩
    | cons => exact h.elim
  | cons x l ih =>
    intro l' h
    cases l' with
    | nil => exact h.elim
    | cons y l' =>
      obtain ⟨h1, h2⟩ := h
      obtain ⟨h3, h4⟩ := ih h2
      refine ⟨by simp [h3], fun i a b ha hb => ?_⟩
      cases i with
      | zero => simp only [List.getElem?_cons_zero, Option.some.injEq] at ha hb; subst ha hb; exact h1
      | succ i => exact h4 i a b (by simpa using ha) (by simpa using hb)
theorem leF_tup {l l' : List EV} (h : LeL c l l') : LeF c (.tup l) (.tup l') := by
  obtain ⟨h1, h2⟩ := h.at
  rintro hl cx r w v st ⟨vs, rfl, hs, hc⟩
  refine ⟨vs, rfl, by rw [hs, h1], fun i y u hy hu => ?_⟩
  have hi : i < l.length := by rw [h1]; exact (List.getElem?_eq_some_iff.1 hy).1
  exact h2 i _ y (List.getElem?_eq_getElem hi) hy hl cx r w u st (hc i _ u (List.getElem?_eq_getElem hi) hu)
def allLt : Nat → (Nat → Prop) → Prop
  | 0, _ => True
  | n + 1, p => allLt n p ∧ p n
theorem allLt_at {p : Nat → Prop} : ∀ {n : Nat}, allLt n p → ∀ i, i < n → p i := by
  intro n
  induction n with
  | zero => intro _ i h; omega
  | succ n ih =>
    intro h i hi
    by_cases he : i = n
    · subst he; exact h.2
    · exact ih h.1 i (by omega)
theorem leE_all {n : Nat} {f g : Nat → CV} (h : allLt n fun i => LeC c (f i) (g i)) : LeE c (.agg n f) (.agg n g) := leE_agg rfl (allLt_at h)
/-- A variable's cells, one by one. -/
theorem leN_var {t : TypeId} {sz : Nat} {f g : Nat → Nat → CV} (h : allLt sz fun j => LeC c (f 0 j) (g 0 j)) : LeN c ⟨t, 1, sz, true, f⟩ ⟨t, 1, sz, true, g⟩ :=
  ⟨rfl, rfl, rfl, rfl, fun i hi j hj => by have h1 : i < 1 := hi; have : i = 0 := by omega
                                           subst this; exact allLt_at h j hj⟩
/-- A variable's cells, all alike. -/
theorem leN_varA {t : TypeId} {sz : Nat} {f g : Nat → Nat → CV} (h : ∀ j, j < sz → LeC c (f 0 j) (g 0 j)) : LeN c ⟨t, 1, sz, true, f⟩ ⟨t, 1, sz, true, g⟩ :=
  ⟨rfl, rfl, rfl, rfl, fun i hi j hj => by have h1 : i < 1 := hi; have : i = 0 := by omega
                                           subst this; exact h j hj⟩
theorem leN_row {t : TypeId} {n n' sz : Nat} {f g : Nat → Nat → CV} (hn : n = n') (h : ∀ i, i < n → ∀ j, j < sz → LeC c (f i j) (g i j)) : LeN c ⟨t, n, sz, false, f⟩ ⟨t, n', sz, false, g⟩ := ⟨rfl, hn, rfl, rfl, h⟩

/-! ### Values without names -/
/-- A cell's value that is kept by every weakening within a call. -/
def Cl (x : CV) : Prop := ∀ c : Wc, c.fin = false → LeC c x x
theorem cl_int {k : IntKind} {a : Int} : Cl (.int k a) := fun _ _ => leC_int rfl
theorem cl_bool {a : Bool} : Cl (.bool a) := fun _ _ => leC_bool rfl
theorem cl_nils : Cl .nils := fun _ _ => leC_nils
theorem cl_sl {sh : Bool} {n sz : Nat} {f : Nat → Nat → CV} (h : ∀ i, i < n → ∀ j, j < sz → Cl (f i j)) : Cl (.sl sh n sz f) := fun c hc => leC_sl (by rw [hc]; cases sh <;> simp) rfl rfl fun i hi j hj => h i hi j hj c hc
theorem leF_cl {H H' : Hp} {rho : List (Nat × Option Nat)} {nx : Nat} {x : CV} (h : Cl x) : LeF ⟨H, H', rho, nx, false⟩ (.e (.c x)) (.e (.c x)) := h _ rfl
theorem leC_cl {H H' : Hp} {rho : List (Nat × Option Nat)} {nx : Nat} {x : CV} (h : Cl x) : LeC ⟨H, H', rho, nx, false⟩ x x := h _ rfl
end

/-- What a call hands back, seen by the caller. -/
theorem CV.rel_into {X' Y X W : Nat → Prop} {r : Ren} {w : World} (hX : ∀ b, X b → Y b) (hW : ∀ b, W b → Y b) : ∀ (x : CV) (v : Value), x.rel (fun _ => none) X' Y w v → x.rel r X W w v := by
  intro x
  induction x with
  | top => intro v h; exact h
  | int => intro v h; exact h
  | bool => intro v h; exact h
  | ptr nm i j s => rintro v ⟨x, hx, _⟩; cases hx
  | nilp => intro v h; exact h
  | nils => intro v h; exact h
  | sl sh n sz f ih =>
    rintro v ⟨a, cap, rfl, h1, h2⟩
    refine ⟨a, cap, rfl, h1, fun h0 => ?_⟩
    obtain ⟨ad, rfl, hs, ho, _, hlt, hc⟩ := h2 h0
    refine ⟨ad, rfl, hs, fun h => ho (hW _ h), fun _ h => ho (hX _ h), hlt, fun i hi j hj => ?_⟩
    obtain ⟨u, hu, hr⟩ := hc i hi j hj
    exact ⟨u, hu, ih i j u hr⟩
  | rp sh m g ih =>
    rintro v ⟨ad, rfl, hs, ho, _, hlt, hc⟩
    refine ⟨ad, rfl, hs, fun h => ho (hW _ h), fun _ h => ho (hX _ h), hlt, fun j hj => ?_⟩
    obtain ⟨u, hu, hr⟩ := hc j hj
    exact ⟨u, hu, ih j u hr⟩
  | os nm i n =>
    rintro v ⟨a, cap, rfl, h1, h2⟩
    refine ⟨a, cap, rfl, h1, fun h0 => ?_⟩
    obtain ⟨x, hx, _⟩ := h2 h0; cases hx
  | oa nm i j n es =>
    rintro v ⟨a, cap, rfl, h1, h2⟩
    refine ⟨a, cap, rfl, h1, fun h0 => ?_⟩
    obtain ⟨x, hx, _⟩ := h2 h0; cases hx
  | fn f n m a ih =>
    rintro v ⟨fs, cs, rfl, h1, h2, h3, h4⟩
    exact ⟨fs, cs, rfl, h1, h2, fun k u hu => ih k u (h3 k u hu), fun k u hu => ih _ u (h4 k u hu)⟩
theorem EV.rel_into {X' Y X W : Nat → Prop} {r : Ren} {w : World} (hX : ∀ b, X b → Y b) (hW : ∀ b, W b → Y b) : ∀ (x : EV) (v : Value), x.rel (fun _ => none) X' Y w v → x.rel r X W w v := by
  intro x v
  cases x with
  | c x => exact CV.rel_into hX hW x v
  | agg n f => rintro ⟨cs, rfl, hs, hc⟩; exact ⟨cs, rfl, hs, fun i u hu => CV.rel_into hX hW _ _ (hc i u hu)⟩
theorem FV.rel_into {X' Y X W : Nat → Prop} {r : Ren} {w : World} (hX : ∀ b, X b → Y b) (hW : ∀ b, W b → Y b) : ∀ (x : FV) (v : Value), x.rel (fun _ => none) X' Y w v → x.rel r X W w v := by
  intro x v
  cases x with
  | top => exact fun _ => trivial
  | e x => exact EV.rel_into hX hW x v
  | tup l => rintro ⟨vs, rfl, hs, hc⟩; exact ⟨vs, rfl, hs, fun i x u hx hu => EV.rel_into hX hW _ _ (hc i x u hx hu)⟩
end Go.Proofs.Ytjknkfjhcapocaa.AX
