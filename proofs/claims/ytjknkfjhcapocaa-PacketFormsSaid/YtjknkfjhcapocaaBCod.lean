/- Codes of numbers, truth values, rows of numbers, structs without pointers, and slices of them. -/
import Derived.Test.YtjknkfjhcapocaaBMeth
namespace Go.Proofs.Ytjknkfjhcapocaa.AX
open Go.RowKit
set_option linter.unusedVariables false

def valI : CV → Int
  | .int _ n => n
  | _ => 0
def valB : CV → Bool
  | .bool b => b
  | _ => false
theorem valI_int {k : IntKind} {n : Int} : valI (.int k n) = n := rfl
theorem valB_bool {b : Bool} : valB (.bool b) = b := rfl
def isK (k : IntKind) : CV → Bool
  | .int k' _ => kindEq k k'
  | _ => false
def isB : CV → Bool
  | .bool _ => true
  | _ => false
theorem isK_eq {k : IntKind} {x : CV} (h : isK k x = true) : x = .int k (valI x) := by
  unfold isK at h
  split at h
  · rename_i k' n
    have : k = k' := by simpa [kindEq] using h
    subst this; rfl
  · cases h
theorem isB_eq {x : CV} (h : isB x = true) : x = .bool (valB x) := by
  unfold isB at h
  split at h
  · rfl
  · cases h
/-- n cells from o on are numbers of kind k. -/
def okA (k : IntKind) (g : Nat → CV) (o : Nat) : Nat → Bool
  | 0 => true
  | n + 1 => isK k (g (o + n)) && okA k g o n
theorem okA_at {k : IntKind} {g : Nat → CV} {o : Nat} : ∀ {n : Nat}, okA k g o n = true → ∀ i, i < n → g (o + i) = .int k (valI (g (o + i))) := by
  intro n
  induction n with
  | zero => intro _ i h; omega
  | succ n ih =>
    intro h i hi
    simp only [okA, Bool.and_eq_true] at h
    by_cases he : i = n
    · subst he; exact isK_eq h.1
    · exact ih h.2 i (by omega)
def gi (k : IntKind) : CV → Option Int
  | .int k' n => bif kindEq k k' then some n else none
  | _ => none
theorem gi_eq {k : IntKind} {x : CV} {n : Int} (h : gi k x = some n) : x = .int k n := by
  unfold gi at h
  split at h
  · rename_i k' m
    cases hk : kindEq k k' with
    | false => rw [hk] at h; cases h
    | true =>
      rw [hk, cond_true] at h
      injection h with h
      have : k = k' := by simpa [kindEq] using hk
      rw [h, this]
  · cases h
def gb : CV → Option Bool
  | .bool b => some b
  | _ => none
theorem gb_eq {x : CV} {b : Bool} (h : gb x = some b) : x = .bool b := by
  unfold gb at h
  split at h
  · injection h with h; rw [h]
  · cases h
def gc : FV → Option CV
  | .e (.c x) => some x
  | _ => none
theorem gc_eq {x : FV} {y : CV} (h : gc x = some y) : x = .e (.c y) := by
  unfold gc at h
  split at h
  · injection h with h; rw [h]
  · cases h
def ga (m : Nat) : FV → Option (Nat → CV)
  | .e (.agg n f) => bif Nat.beq n m then some f else none
  | _ => none
theorem ga_eq {m : Nat} {x : FV} {f : Nat → CV} (h : ga m x = some f) : x = .e (.agg m f) := by
  unfold ga at h
  split at h
  · rename_i n g
    cases hb : Nat.beq n m with
    | false => rw [hb] at h; cases h
    | true =>
      rw [hb, cond_true] at h
      injection h with h
      rw [h, Nat.eq_of_beq_eq_true hb]
  · cases h
theorem bind_some {α β : Type} {x : Option α} {f : α → Option β} {b : β} (h : (x.bind f) = some b) : ∃ a, x = some a ∧ f a = some b := by
  cases x with
  | none => cases h
  | some a => exact ⟨a, rfl, h⟩

/-- A cell that is the same wherever it is looked at. -/
def FlatC (x : CV) : Prop := ∀ r r' X X' W W' w w' v, x.rel r X W w v → x.rel r' X' W' w' v
theorem flat_int {k : IntKind} {a : Int} : FlatC (.int k a) := fun _ _ _ _ _ _ _ _ _ h => h
theorem flat_bool {a : Bool} : FlatC (.bool a) := fun _ _ _ _ _ _ _ _ _ h => h
theorem flat_top : FlatC .top := fun _ _ _ _ _ _ _ _ _ h => h
theorem FlatC.nf {x : CV} (h : FlatC x) : NF x := fun r r' X W w v hx => h _ _ _ _ _ _ _ _ _ hx
theorem FlatC.cl {x : CV} (h : FlatC x) : Cl x := fun c _ _ cx r w v _ hx => h _ _ _ _ _ _ _ _ _ hx
theorem FlatC.le {c : Wc} {x : CV} (h : FlatC x) : LeC c x x := fun _ cx r w v _ hx => h _ _ _ _ _ _ _ _ _ hx

/-- Codes of values that are rows of numbers and truth values. -/
structure Elem (α : Type) where
  sz : Nat
  cell : α → Nat → CV
  rd : (Nat → CV) → α
  ok : (Nat → CV) → Bool
  ok_eq : ∀ g, ok g = true → ∀ j, j < sz → g j = cell (rd g) j
  flat : ∀ a j, FlatC (cell a j)
def eI (k : IntKind) : Elem Int where
  sz := 1
  cell a _ := .int k a
  rd g := valI (g 0)
  ok g := isK k (g 0)
  ok_eq g h j hj := by have : j = 0 := by omega
                       subst this; exact isK_eq h
  flat _ _ := flat_int
/-- The number at a place of a row. -/
def vget {n : Nat} (a : Fin n → Int) (j : Nat) : Int := if h : j < n then a ⟨j, h⟩ else 0
theorem vget_lt {n : Nat} (a : Fin n → Int) {j : Nat} (h : j < n) : vget a j = a ⟨j, h⟩ := dif_pos h
def eA (k : IntKind) (n : Nat) : Elem (Fin n → Int) where
  sz := n
  cell a j := .int k (vget a j)
  rd g := fun q => valI (g q.1)
  ok g := okA k g 0 n
  ok_eq g h j hj := by
    have := okA_at h j hj
    rw [Nat.zero_add] at this
    rw [vget_lt _ hj]
    exact this
  flat _ _ := flat_int
theorem eA_rd {k : IntKind} {n : Nat} (a : Fin n → Int) : (eA k n).rd ((eA k n).cell a) = a := by
  funext q
  exact vget_lt a q.2
theorem selC_out {c : Wc} {b : Bool} {x y z : CV} (hb : b = false) (h : LeC c y z) : LeC c (selC b x y) z := by rw [selC_eq, hb]; exact h
theorem selC_in {c : Wc} {b : Bool} {x y z : CV} (hb : b = true) (h : LeC c x z) : LeC c (selC b x y) z := by rw [selC_eq, hb]; exact h
theorem cond_out {c : Wc} {b : Bool} {x y z : CV} (hb : b = false) (h : LeC c y z) : LeC c (bif b then x else y) z := by rw [hb]; exact h
theorem rng_out {i j n : Nat} (h : j < i ∨ i + n ≤ j) : (Nat.ble i j && Nat.blt j (i + n)) = false := by
  cases hb : (Nat.ble i j && Nat.blt j (i + n)) with
  | false => rfl
  | true =>
    simp only [Bool.and_eq_true] at hb
    have := Nat.le_of_ble_eq_true hb.1
    have := Nat.le_of_ble_eq_true hb.2
    omega
theorem rng_in {i j n : Nat} (h : i ≤ j ∧ j < i + n) : (Nat.ble i j && Nat.blt j (i + n)) = true := by
  simp only [Bool.and_eq_true]; exact ⟨Nat.ble_eq_true_of_le h.1, Nat.ble_eq_true_of_le h.2⟩

def cI (k : IntKind) : Codec Int where
  enc n := .e (.c (.int k n))
  dec _ x := (gc x).bind fun y => (gi k y).bind fun n => some (n, none, [])
  sound H H' x a p rd h _ _ := by
    obtain ⟨y, h1, h⟩ := bind_some h
    obtain ⟨n, h2, h⟩ := bind_some h
    injection h with h
    injection h with h h'
    injection h' with h' h''
    subst h h''
    rw [gc_eq h1, gi_eq h2]
    exact fun cx r w v _ hx => hx
def cB : Codec Bool where
  enc n := .e (.c (.bool n))
  dec _ x := (gc x).bind fun y => (gb y).bind fun n => some (n, none, [])
  sound H H' x a p rd h _ _ := by
    obtain ⟨y, h1, h⟩ := bind_some h
    obtain ⟨n, h2, h⟩ := bind_some h
    injection h with h
    injection h with h h'
    injection h' with h' h''
    subst h h''
    rw [gc_eq h1, gb_eq h2]
    exact fun cx r w v _ hx => hx
theorem bo_agg {H : Hp} {rd : List Nat} {n : Nat} {f g : Nat → CV} (hg : ∀ j, j < n → f j = g j) (hf : ∀ j, FlatC (g j)) : Bo H rd (.e (.agg n f)) (.e (.agg n g)) := by
  rintro cx r w v _ ⟨cs, rfl, h1, h2⟩
  refine ⟨cs, rfl, h1, fun i u hu => ?_⟩
  have hi : i < n := by rw [← h1]; exact (Array.getElem?_eq_some_iff.1 hu).1
  have := h2 i u hu
  rw [hg i hi] at this
  exact hf i _ _ _ _ _ _ _ _ _ this
/-- A struct or a row by value. -/
def cE {α : Type} (E : Elem α) : Codec α where
  enc a := .e (.agg E.sz (E.cell a))
  dec _ x := (ga E.sz x).bind fun f => bif E.ok f then some (E.rd f, none, []) else none
  sound H H' x a p rd h _ _ := by
    obtain ⟨f, h1, h⟩ := bind_some h
    obtain ⟨hk, h⟩ := cond_some h
    injection h with h h'
    injection h' with h' h''
    subst h h''
    rw [ga_eq h1]
    exact bo_agg (E.ok_eq f hk) (E.flat _)

/-! ### Slices -/
def rowF {α : Type} [Inhabited α] (E : Elem α) (l : List α) (i j : Nat) : CV := E.cell (l.getD i default) j
def toL {α : Type} (E : Elem α) (n : Nat) (g : Nat → Nat → CV) : List α := (List.range n).map fun i => E.rd (g i)
theorem toL_len {α : Type} (E : Elem α) (n : Nat) (g : Nat → Nat → CV) : (toL E n g).length = n := by simp [toL]
theorem toL_get {α : Type} [Inhabited α] {E : Elem α} {n : Nat} {g : Nat → Nat → CV} {i : Nat} (h : i < n) : (toL E n g).getD i default = E.rd (g i) := by simp [toL, h]
theorem bo_sl {α : Type} [Inhabited α] {E : Elem α} {H : Hp} {x : FV} {n : Nat} {g : Nat → Nat → CV} {p : Option Prop} {rd : List Nat} (hsz : 0 < E.sz) (h : srcOf H E.sz x = some ⟨n, g, p, rd⟩) (hp : preOk p) (hok : ∀ i, i < n → E.ok (g i) = true) :
    Bo H rd x (.e (.c (.sl false (toL E n g).length E.sz (rowF E (toL E n g))))) := by
  intro cx r w v st hx
  rw [toL_len]
  have key : ∀ i, i < n → ∀ j, j < E.sz → rowF E (toL E n g) i j = g i j := fun i hi j hj => by
    unfold rowF
    rw [toL_get hi]
    exact (E.ok_eq _ (hok i hi) j hj).symm
  unfold srcOf at h
  split at h
  · rename_i sh n' s f
    obtain ⟨hb, h⟩ := cond_some h
    injection h with h1 h2 h3 h4
    subst h1 h2 h3 h4
    obtain ⟨a, cap, rfl, c1, c2⟩ := hx
    refine ⟨a, cap, rfl, c1, fun h0 => ?_⟩
    obtain ⟨ad, rfl, hs, ho, hX, hlt, hc⟩ := c2 h0
    refine ⟨ad, rfl, hs, fun ⟨k, e, x, q1, q2, q3, _⟩ => ho ⟨k, e, x, q1, q2, q3⟩, (fun h => by cases h), hlt, fun i hi j hj => ?_⟩
    have hsE : s = E.sz := Nat.eq_of_beq_eq_true hb
    subst hsE
    obtain ⟨u, hu, hr⟩ := hc i hi j hj
    refine ⟨u, hu, ?_⟩
    rw [← key i hi j hj] at hr
    exact E.flat _ _ _ _ _ _ _ _ _ _ _ hr
  · injection h with h
    injection h with h1 h2 h3 h4
    subst h1 h2 h3 h4
    have : v = .slice none 0 0 := hx
    subst this
    exact ⟨none, 0, rfl, Nat.le_refl _, fun h => absurd h (Nat.lt_irrefl _)⟩
  · rename_i k i n'
    split at h
    · rename_i et en es ev f he
      obtain ⟨hb, h⟩ := cond_some h
      injection h with h1 h2 h3 h4
      subst h1 h2 h3 h4
      have hsE : es = E.sz := Nat.eq_of_beq_eq_true hb
      subst hsE
      obtain ⟨a, cap, rfl, c1, c2⟩ := hx
      refine ⟨a, cap, rfl, c1, fun h0 => ?_⟩
      obtain ⟨x, hx, rfl, _⟩ := c2 (by omega)
      have hp' : i + n' ≤ en := hp
      obtain ⟨_, _, hxs, _⟩ := blk_at st he hx
      simp only at hxs
      refine ⟨⟨x.b, i * x.sz, none⟩, rfl, rfl, ?_, (fun h => by cases h), (st.dom k x hx).1, fun q hq j hj => ?_⟩
      · rintro ⟨k2, e2, y, q1, q2, q3, q4⟩
        have := st.inj k2 k e2 _ y x q1 he q2 hx q3
        exact q4 (by rw [this]; exact List.mem_singleton.2 rfl)
      · obtain ⟨u, hu, hr⟩ := blk_cell st he hx (i := i + q) (j := j) (show i + q < en by omega) hj
        refine ⟨u, ?_, ?_⟩
        · rw [← hu]
          show w.cell? ⟨x.b, i * x.sz + (q * E.sz + j), none⟩ = _
          rw [show i * x.sz + (q * E.sz + j) = (i + q) * x.sz + j by rw [hxs, Nat.add_mul]; omega]
        · have := key q hq j hj
          rw [this]
          have hr' : (f (i + q) j).rel r cx.X (wr r H) w u := hr
          have e2 : f (i + q) j = E.cell (E.rd (f (i + q))) j := E.ok_eq _ (hok q hq) j hj
          rw [e2] at hr'
          show CV.rel _ _ _ w (f (i + q) j) u
          rw [e2]
          exact E.flat _ _ _ _ _ _ _ _ _ _ _ hr'
    · cases h
  · rename_i k i j0 n' s
    split at h
    · rename_i et en es ev f he
      obtain ⟨hb, h⟩ := cond_some h
      injection h with h1 h2 h3 h4
      subst h1 h2 h3 h4
      have hsE : s = E.sz := Nat.eq_of_beq_eq_true hb
      subst hsE
      obtain ⟨a, cap, rfl, c1, c2⟩ := hx
      refine ⟨a, cap, rfl, c1, fun h0 => ?_⟩
      obtain ⟨x, hx, rfl⟩ := c2 h0
      have hp' : i < en ∧ j0 + n' * E.sz ≤ es := hp
      refine ⟨⟨x.b, i * x.sz + j0, none⟩, rfl, rfl, ?_, (fun h => by cases h), (st.dom k x hx).1, fun q hq j hj => ?_⟩
      · rintro ⟨k2, e2, y, q1, q2, q3, q4⟩
        have := st.inj k2 k e2 _ y x q1 he q2 hx q3
        exact q4 (by rw [this]; exact List.mem_singleton.2 rfl)
      · have hlt : q * E.sz + j < n' * E.sz := by have := row_lt (sz := E.sz) hq; omega
        obtain ⟨u, hu, hr⟩ := blk_cell st he hx (i := i) (j := j0 + (q * E.sz + j)) (show i < en from hp'.1) (show j0 + (q * E.sz + j) < es by omega)
        refine ⟨u, ?_, ?_⟩
        · rw [← hu]
          show w.cell? ⟨x.b, i * x.sz + j0 + (q * E.sz + j), none⟩ = _
          rw [Nat.add_assoc]
        · have := key q hq j hj
          rw [this]
          have hr' : (f i (j0 + (q * E.sz + j))).rel r cx.X (wr r H) w u := hr
          have e2 : f i (j0 + (q * E.sz + j)) = E.cell (E.rd fun t => f i (j0 + (q * E.sz + t))) j := E.ok_eq _ (hok q hq) j hj
          rw [e2] at hr'
          show CV.rel _ _ _ w (f i (j0 + (q * E.sz + j))) u
          rw [e2]
          exact E.flat _ _ _ _ _ _ _ _ _ _ _ hr'
    · cases h
  · cases h
/-- A slice that is lent for the call. -/
def cSl {α : Type} [Inhabited α] (E : Elem α) (hsz : 0 < E.sz) : Codec (List α) where
  enc l := .e (.c (.sl false l.length E.sz (rowF E l)))
  dec H x := match srcOf H E.sz x with
    | some ⟨n, g, p, rd⟩ => some (toL E n g, both p (some (∀ i, i < n → E.ok (g i) = true)), rd)
    | none => none
  sound H H' x a p rd h hp hh := by
    split at h
    · rename_i n g q rd' hs
      injection h with h
      injection h with h h'
      injection h' with h' h''
      subst h h' h''
      obtain ⟨h1, h2⟩ := both_ok.1 hp
      exact bo_sl hsz (srcOf_congr hs hh) h1 h2
    · cases h
/-- A slice as a result. -/
def slR {α : Type} [Inhabited α] (E : Elem α) (l : List α) : CV := .sl true l.length E.sz (rowF E l)
def slB {α : Type} [Inhabited α] (E : Elem α) (l : List α) : CV := .sl false l.length E.sz (rowF E l)
/-- A slice of ours. -/
def ents {α : Type} [Inhabited α] (E : Elem α) (t : TypeId) (l : List α) : Ent := ⟨t, l.length, E.sz, false, rowF E l⟩

theorem toL_row {α : Type} [Inhabited α] {E : Elem α} (hE : ∀ a, E.rd (E.cell a) = a) (l : List α) : toL E l.length (rowF E l) = l := by
  apply List.ext_getElem
  · simp [toL]
  · intro i h1 h2
    simp only [toL, List.getElem_map, List.getElem_range]
    have : rowF E l i = E.cell (l.getD i default) := rfl
    rw [this, hE]
    simp [List.getD_eq_getElem?_getD, List.getElem?_eq_getElem h2]
theorem ok_row {α : Type} [Inhabited α] {E : Elem α} (hE : ∀ a, E.ok (E.cell a) = true) (l : List α) : ∀ i, i < l.length → E.ok (rowF E l i) = true := fun i _ => hE _
theorem row_nf {α : Type} [Inhabited α] (E : Elem α) (l : List α) (i j : Nat) : NF (rowF E l i j) := (E.flat _ _).nf
theorem cl_slB {α : Type} [Inhabited α] (E : Elem α) (l : List α) : Cl (.sl false l.length E.sz (rowF E l)) := cl_sl fun i _ j _ => (E.flat _ _).cl
theorem cl_slR {α : Type} [Inhabited α] (E : Elem α) (l : List α) : Cl (.sl true l.length E.sz (rowF E l)) := cl_sl fun i _ j _ => (E.flat _ _).cl
end Go.Proofs.Ytjknkfjhcapocaa.AX
