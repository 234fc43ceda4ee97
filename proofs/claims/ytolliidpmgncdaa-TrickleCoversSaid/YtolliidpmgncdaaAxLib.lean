/- Small lemmas for the proofs of functions by AX. -/
import Derived.Test.YtolliidpmgncdaaAxExec
namespace Go.Proofs.Ytolliidpmgncdaa.AX
set_option linter.unusedVariables false
theorem leC_int {nx : Nat} {k : IntKind} {a b : Int} (h : a = b) : LeC nx (.int k a) (.int k b) := fun r O w v hv => by subst h; exact hv
theorem leC_bool {nx : Nat} {a b : Bool} (h : a = b) : LeC nx (.bool a) (.bool b) := fun r O w v hv => by subst h; exact hv
theorem leC_ptr {nx k off : Nat} (h : k < nx) : LeC nx (.ptr k off) (.ptr k off) := fun r O w v ⟨b, hb, hv⟩ => ⟨b, by unfold res; rw [if_pos h]; exact hb, hv⟩
theorem leC_nilp {nx : Nat} : LeC nx .nilp .nilp := fun r O w v hv => hv
theorem leC_top {nx : Nat} {x : CV} : LeC nx x .top := fun r O w v hv => rel_isCell hv
theorem leC_sl {nx n n' sz sz' : Nat} {f g : Nat → Nat → CV} (hn : n = n') (hz : sz = sz') (h : ∀ i, i < n → ∀ j, j < sz → LeC nx (f i j) (g i j)) : LeC nx (.sl n sz f) (.sl n' sz' g) := by
  subst hn hz
  rintro r O w v ⟨a, cap, rfl, h1, h2, h3⟩
  refine ⟨a, cap, rfl, h1, h2, fun h0 => ?_⟩
  obtain ⟨ad, rfl, hs, ho, hlt, hc⟩ := h3 h0
  refine ⟨ad, rfl, hs, ho, hlt, fun i hi j hj => ?_⟩
  obtain ⟨u, hu, hr⟩ := hc i hi j hj
  exact ⟨u, hu, h i hi j hj _ _ _ _ hr⟩
theorem leE_c {nx : Nat} {x y : CV} (h : LeC nx x y) : LeE nx (.c x) (.c y) := h
theorem leE_agg {nx n m : Nat} {f g : Nat → CV} (hn : n = m) (h : ∀ i, i < n → LeC nx (f i) (g i)) : LeE nx (.agg n f) (.agg m g) := by
  subst hn
  rintro r O w v ⟨cs, rfl, hs, hc⟩
  exact ⟨cs, rfl, hs, fun i u hu => h i (by rw [← hs]; exact (Array.getElem?_eq_some_iff.1 hu).1) _ _ _ _ (hc i u hu)⟩
theorem leF_e {nx : Nat} {x y : EV} (h : LeE nx x y) : LeF nx (.e x) (.e y) := h
theorem leF_top {nx : Nat} {x : FV} : LeF nx x .top := fun _ _ _ _ _ => trivial
theorem leF_int {nx : Nat} {k : IntKind} {a b : Int} (h : a = b) : LeF nx (.e (.c (.int k a))) (.e (.c (.int k b))) := leC_int (nx := nx) h
theorem leF_bool {nx : Nat} {a b : Bool} (h : a = b) : LeF nx (.e (.c (.bool a))) (.e (.c (.bool b))) := leC_bool (nx := nx) h
theorem leF_ptr {nx k off : Nat} (h : Nat.blt k nx = true) : LeF nx (.e (.c (.ptr k off))) (.e (.c (.ptr k off))) := leC_ptr (nx := nx) (Nat.le_of_ble_eq_true h)
theorem leF_tup2 {nx : Nat} {a b a' b' : EV} (h1 : LeE nx a a') (h2 : LeE nx b b') : LeF nx (.tup [a, b]) (.tup [a', b']) := by
  rintro r O w v ⟨vs, rfl, hs, hc⟩
  refine ⟨vs, rfl, hs, fun i x u hx hu => ?_⟩
  match i, hx with
  | 0, hx => injection hx with hx; subst hx; exact h1 _ _ _ _ (hc 0 a u rfl hu)
  | 1, hx => injection hx with hx; subst hx; exact h2 _ _ _ _ (hc 1 b u rfl hu)
theorem leF_tup3 {nx : Nat} {a b c a' b' c' : EV} (h1 : LeE nx a a') (h2 : LeE nx b b') (h3 : LeE nx c c') : LeF nx (.tup [a, b, c]) (.tup [a', b', c']) := by
  rintro r O w v ⟨vs, rfl, hs, hc⟩
  refine ⟨vs, rfl, hs, fun i x u hx hu => ?_⟩
  match i, hx with
  | 0, hx => injection hx with hx; subst hx; exact h1 _ _ _ _ (hc 0 a u rfl hu)
  | 1, hx => injection hx with hx; subst hx; exact h2 _ _ _ _ (hc 1 b u rfl hu)
  | 2, hx => injection hx with hx; subst hx; exact h3 _ _ _ _ (hc 2 c u rfl hu)

/-! ### Contracts -/
structure Entry where
  g : List FV → Hp → Nat → Option SR
  q : List FV → Hp → Nat → Option Qf
abbrev CsL := List (Nat × Option Entry)
def mkC (l : CsL) : Cs := fun f args H nm => match look none l f with
  | some e => e.g args H nm
  | none => none
def mkQ (l : CsL) : Qs := fun f args H nm => match look none l f with
  | some e => e.q args H nm
  | none => none
def hasBody (P : Program) (f : FuncId) : Prop := ∃ fn, P.funcs[f]? = some fn ∧ fn.body.isSome = true ∧ (fn.name == "runtime.NumGoroutine") = false
/-- One entry of the contracts' list is right. -/
structure EntOk (P : Program) (f : FuncId) (x : Entry) : Prop where
  ok : ∀ cx r H w nm args (vals : Array Value) sr, x.g args H nm = some sr → preOk sr.pre → St cx r H w → r nm = none → hget H nm = none → RelL r (own cx r H) w args vals →
    hasBody P f ∧ Calls P f vals w fun e w' => ∃ v, e = .returned v ∧ Left cx r H w nm sr v w'
  loc : ∀ args H H' nm sr, x.g args H nm = some sr → (∀ k ∈ sr.rd, hget H k = hget H' k) → x.g args H' nm = some sr
  qok : ∀ args H nm sr q, x.g args H nm = some sr → x.q args H nm = some q → preOk sr.pre → ∀ K, q K → K sr.val sr.eff
  mono : ∀ args H nm q, x.q args H nm = some q → ∀ K K' : FV → Hp → Prop, (∀ v e, K v e → K' v e) → q K → q K'
def AllOk (P : Program) : CsL → Prop
  | [] => True
  | (_, none) :: l => AllOk P l
  | (f, some g) :: l => EntOk P f g ∧ AllOk P l
theorem AllOk.at {P : Program} : ∀ {l : CsL}, AllOk P l → ∀ f g, look none l f = some g → EntOk P f g := by
  intro l
  induction l with
  | nil => intro _ f g h; cases h
  | cons p l ih =>
    obtain ⟨k, x⟩ := p
    intro h f g hf
    by_cases hk : f = k
    · subst hk
      rw [look_cons_eq] at hf
      subst hf
      exact h.1
    · rw [look_cons_ne _ _ _ hk] at hf
      cases x with
      | none => exact ih h f g hf
      | some y => exact ih h.2 f g hf
theorem append_ok {P : Program} : ∀ {a b : CsL}, AllOk P a → AllOk P b → AllOk P (a ++ b) := by
  intro a
  induction a with
  | nil => intro b _ h; exact h
  | cons p a ih =>
    intro b h1 h2
    obtain ⟨k, x⟩ := p
    cases x with
    | none => exact ih h1 h2
    | some y => exact ⟨h1.1, ih h1.2 h2⟩
theorem callsOk_of {P : Program} {l : CsL} (h : AllOk P l) : CallsOk P (mkC l) := by
  intro cx r H w nm f args vals sr hs hp st hr hh hl
  unfold mkC at hs
  split at hs
  · rename_i g hg; exact (h.at f g hg).ok cx r H w nm args vals sr hs hp st hr hh hl
  · cases hs
theorem local_of {P : Program} {l : CsL} (h : AllOk P l) : CsLocal (mkC l) := by
  intro f args H H' nm sr hs hh
  unfold mkC at hs ⊢
  split at hs
  · rename_i g hg; exact (h.at f g hg).loc args H H' nm sr hs hh
  · cases hs
theorem q_of {P : Program} {l : CsL} (h : AllOk P l) : QsOk (mkC l) (mkQ l) := by
  intro f args H nm sr q hs hq hp
  unfold mkC at hs
  unfold mkQ at hq
  split at hs
  · rename_i g hg
    rw [hg] at hq
    exact (h.at f g hg).qok args H nm sr q hs hq hp
  · cases hs
theorem mono_of {P : Program} {l : CsL} (h : AllOk P l) : ∀ f args H nm q, mkQ l f args H nm = some q → ∀ K K' : FV → Hp → Prop, (∀ v e, K v e → K' v e) → q K → q K' := by
  intro f args H nm q hq
  unfold mkQ at hq
  split at hq
  · rename_i g hg
    exact (h.at f g hg).mono args H nm q hq
  · cases hq

/-- The entry of a function that keeps all memory: what it asks and what it returns, by its arguments. -/
def pureE (g : List FV → Option (Option Prop × FV)) : Entry where
  g args _ _ := match g args with
    | some (p, v) => some ⟨p, v, [], []⟩
    | none => none
  q _ _ _ := none
theorem pureE_ok {P : Program} {f : FuncId} {g : List FV → Option (Option Prop × FV)} (hb : hasBody P f) (h : ∀ args p v, g args = some (p, v) → preOk p → PureOk P f args v) : EntOk P f (pureE g) := by
  refine ⟨fun cx r H w nm args vals sr hs hp st hr hh hl => ⟨hb, ?_⟩, fun args H H' nm sr hs _ => hs, fun _ _ _ _ _ _ hq => (by cases hq), fun _ _ _ _ hq => (by cases hq)⟩
  simp only [pureE] at hs
  split at hs
  · rename_i p v hg
    injection hs with hs
    subst hs
    have hO : ∀ b, own cx r H b → b < w.heap.size := by
      rintro b (hx | ⟨k, e, he, hk⟩)
      · exact Nat.lt_of_lt_of_le (st.xlt b hx) st.size
      · exact (st.dom k b hk).1
    refine (h args p v hg hp r (own cx r H) w vals hl hO).mono fun e w' he => ?_
    obtain ⟨u, rfl, hbel, hrel⟩ := he
    obtain ⟨g1, g2⟩ := st.below hbel
    refine ⟨u, rfl, r, g1, g2, fun _ _ => rfl, FV.rel_ext ⟨fun _ _ h => (by cases h), Nat.le_refl _, fun _ _ _ => rfl, fun b _ o => o⟩ _ _ hrel⟩
  · cases hs
/-- An entry whose outcome is told by a quantifier. -/
def Entry.with (x : Entry) (q : List FV → Hp → Nat → Option Qf) : Entry := ⟨x.g, q⟩
theorem EntOk.with {P : Program} {f : FuncId} {x : Entry} (h : EntOk P f x) {q : List FV → Hp → Nat → Option Qf} (h1 : ∀ args H nm sr k, x.g args H nm = some sr → q args H nm = some k → preOk sr.pre → ∀ K, k K → K sr.val sr.eff)
    (h2 : ∀ args H nm k, q args H nm = some k → ∀ K K' : FV → Hp → Prop, (∀ v e, K v e → K' v e) → k K → k K') : EntOk P f (x.with q) := ⟨h.ok, h.loc, h1, h2⟩

/-! ### Codes: values of a type of one's own as frame values -/
structure Codec (α : Type) where
  enc : α → FV
  dec : FV → Option α
  sound : ∀ x a, dec x = some a → LeF 0 x (enc a)

theorem PureOk.le {P : Program} {f : FuncId} {args args' : List FV} {spec : FV} (h : PureOk P f args' spec) (hl : args.length = args'.length) (hle : ∀ (i : Nat) x y, args[i]? = some x → args'[i]? = some y → LeF 0 x y) : PureOk P f args spec := by
  intro r O w vals hr hO
  refine h (res 0 r) O w vals ⟨hr.1.trans hl, fun i y u hy hu => ?_⟩ hO
  have hi : i < args.length := by rw [hl]; exact (List.getElem?_eq_some_iff.1 hy).1
  exact hle i _ y (List.getElem?_eq_getElem hi) hy _ _ _ _ (hr.2 i _ u (List.getElem?_eq_getElem hi) hu)

def gi (k : IntKind) : CV → Option Int
  | .int k' n => bif kindEq k k' then some n else none
  | _ => none
theorem gi_eq {k : IntKind} {x : CV} {n : Int} (h : gi k x = some n) : x = .int k n := by
  unfold gi at h
  split at h
  · rename_i k' m
    cases hk : kindEq k k' with
    | false => rw [hk] at h; cases h
    | true =>
      rw [hk, cond_true] at h
      injection h with h
      have : k = k' := by simpa [kindEq] using hk
      rw [h, this]
  · cases h
def gb : CV → Option Bool
  | .bool b => some b
  | _ => none
theorem gb_eq {x : CV} {b : Bool} (h : gb x = some b) : x = .bool b := by
  unfold gb at h
  split at h
  · injection h with h; rw [h]
  · cases h
def gc : FV → Option CV
  | .e (.c x) => some x
  | _ => none
theorem gc_eq {x : FV} {y : CV} (h : gc x = some y) : x = .e (.c y) := by
  unfold gc at h
  split at h
  · injection h with h; rw [h]
  · cases h
def ga (m : Nat) : FV → Option (Nat → CV)
  | .e (.agg n f) => bif Nat.beq n m then some f else none
  | _ => none
theorem ga_eq {m : Nat} {x : FV} {f : Nat → CV} (h : ga m x = some f) : x = .e (.agg m f) := by
  unfold ga at h
  split at h
  · rename_i n g
    cases hb : Nat.beq n m with
    | false => rw [hb] at h; cases h
    | true =>
      rw [hb, cond_true] at h
      injection h with h
      rw [h, Nat.eq_of_beq_eq_true hb]
  · cases h
theorem bind_some {α β : Type} {x : Option α} {f : α → Option β} {b : β} (h : (x.bind f) = some b) : ∃ a, x = some a ∧ f a = some b := by
  cases x with
  | none => cases h
  | some a => exact ⟨a, rfl, h⟩
def cI (k : IntKind) : Codec Int where
  enc n := .e (.c (.int k n))
  dec x := (gc x).bind (gi k)
  sound x a h := by
    obtain ⟨y, h1, h2⟩ := bind_some h
    rw [gc_eq h1, gi_eq h2]
    exact leF_int rfl
def cB : Codec Bool where
  enc n := .e (.c (.bool n))
  dec x := (gc x).bind gb
  sound x a h := by
    obtain ⟨y, h1, h2⟩ := bind_some h
    rw [gc_eq h1, gb_eq h2]
    exact leF_bool rfl

section
variable {P : Program} {f : FuncId}
def pure1 {α0 : Type} (c0 : Codec α0) (g : α0 → Option Prop × FV) : List FV → Option (Option Prop × FV)
  | [x0] => (c0.dec x0).bind fun a0 => some (g a0)
  | _ => none
theorem pure1_ok {α0 : Type} {c0 : Codec α0} {g : α0 → Option Prop × FV} (hb : hasBody P f) (h : ∀ a0, preOk (g a0).1 → PureOk P f [c0.enc a0] (g a0).2) : EntOk P f (pureE (pure1 c0 g)) := by
  refine pureE_ok hb fun args p v hg hp => ?_
  unfold pure1 at hg
  split at hg
  · obtain ⟨a0, h0, hg⟩ := bind_some hg
    injection hg with hg
    have e1 : p = (g a0).1 := by rw [hg]
    have e2 : v = (g a0).2 := by rw [hg]
    subst e1 e2
    refine (h a0 hp).le rfl fun i x y hx hy => ?_
    match i, hx, hy with
    | 0, hx, hy => injection hx with hx; injection hy with hy; subst hx hy; exact c0.sound _ _ h0
  · cases hg
/-- The same, the result under a name of its own. -/
def pureR1 {α0 R : Type} (c0 : Codec α0) (p : α0 → Option Prop) (F : α0 → R) (enc : R → FV) : Entry :=
  (pureE (pure1 c0 fun a0 => (p a0, enc (F a0)))).with fun args _ _ =>
    match args with
    | [x0] => (c0.dec x0).bind fun a0 => some fun K => ∀ s, s = F a0 → K (enc s) []
    | _ => none
theorem pureR1_ok {α0 R : Type} {c0 : Codec α0} {p : α0 → Option Prop} {F : α0 → R} {enc : R → FV} (hb : hasBody P f) (h : ∀ a0, preOk (p a0) → PureOk P f [c0.enc a0] (enc (F a0))) : EntOk P f (pureR1 c0 p F enc) := by
  refine (pure1_ok hb h).with (fun args H nm sr k hs hk hp K hK => ?_) (fun args H nm k hk K K' hKK hK => ?_)
  · simp only [pureE] at hs
    split at hk
    · simp only [pure1] at hs
      obtain ⟨a0, h0, hk⟩ := bind_some hk
      injection hk with hk
      subst hk
      simp only [h0, Option.bind_some] at hs
      injection hs with hs
      subst hs
      exact hK _ rfl
    · cases hk
  · split at hk
    · obtain ⟨a0, h0, hk⟩ := bind_some hk
      injection hk with hk
      subst hk
      exact fun s hs => hKK _ _ (hK s hs)
    · cases hk
def pure2 {α0 α1 : Type} (c0 : Codec α0) (c1 : Codec α1) (g : α0 → α1 → Option Prop × FV) : List FV → Option (Option Prop × FV)
  | [x0, x1] => (c0.dec x0).bind fun a0 => (c1.dec x1).bind fun a1 => some (g a0 a1)
  | _ => none
theorem pure2_ok {α0 α1 : Type} {c0 : Codec α0} {c1 : Codec α1} {g : α0 → α1 → Option Prop × FV} (hb : hasBody P f) (h : ∀ a0 a1, preOk (g a0 a1).1 → PureOk P f [c0.enc a0, c1.enc a1] (g a0 a1).2) : EntOk P f (pureE (pure2 c0 c1 g)) := by
  refine pureE_ok hb fun args p v hg hp => ?_
  unfold pure2 at hg
  split at hg
  · obtain ⟨a0, h0, hg⟩ := bind_some hg
    obtain ⟨a1, h1, hg⟩ := bind_some hg
    injection hg with hg
    have e1 : p = (g a0 a1).1 := by rw [hg]
    have e2 : v = (g a0 a1).2 := by rw [hg]
    subst e1 e2
    refine (h a0 a1 hp).le rfl fun i x y hx hy => ?_
    match i, hx, hy with
    | 0, hx, hy => injection hx with hx; injection hy with hy; subst hx hy; exact c0.sound _ _ h0
    | 1, hx, hy => injection hx with hx; injection hy with hy; subst hx hy; exact c1.sound _ _ h1
  · cases hg
/-- The same, the result under a name of its own. -/
def pureR2 {α0 α1 R : Type} (c0 : Codec α0) (c1 : Codec α1) (p : α0 → α1 → Option Prop) (F : α0 → α1 → R) (enc : R → FV) : Entry :=
  (pureE (pure2 c0 c1 fun a0 a1 => (p a0 a1, enc (F a0 a1)))).with fun args _ _ =>
    match args with
    | [x0, x1] => (c0.dec x0).bind fun a0 => (c1.dec x1).bind fun a1 => some fun K => ∀ s, s = F a0 a1 → K (enc s) []
    | _ => none
theorem pureR2_ok {α0 α1 R : Type} {c0 : Codec α0} {c1 : Codec α1} {p : α0 → α1 → Option Prop} {F : α0 → α1 → R} {enc : R → FV} (hb : hasBody P f) (h : ∀ a0 a1, preOk (p a0 a1) → PureOk P f [c0.enc a0, c1.enc a1] (enc (F a0 a1))) : EntOk P f (pureR2 c0 c1 p F enc) := by
  refine (pure2_ok hb h).with (fun args H nm sr k hs hk hp K hK => ?_) (fun args H nm k hk K K' hKK hK => ?_)
  · simp only [pureE] at hs
    split at hk
    · simp only [pure2] at hs
      obtain ⟨a0, h0, hk⟩ := bind_some hk
      obtain ⟨a1, h1, hk⟩ := bind_some hk
      injection hk with hk
      subst hk
      simp only [h0, h1, Option.bind_some] at hs
      injection hs with hs
      subst hs
      exact hK _ rfl
    · cases hk
  · split at hk
    · obtain ⟨a0, h0, hk⟩ := bind_some hk
      obtain ⟨a1, h1, hk⟩ := bind_some hk
      injection hk with hk
      subst hk
      exact fun s hs => hKK _ _ (hK s hs)
    · cases hk
def pure3 {α0 α1 α2 : Type} (c0 : Codec α0) (c1 : Codec α1) (c2 : Codec α2) (g : α0 → α1 → α2 → Option Prop × FV) : List FV → Option (Option Prop × FV)
  | [x0, x1, x2] => (c0.dec x0).bind fun a0 => (c1.dec x1).bind fun a1 => (c2.dec x2).bind fun a2 => some (g a0 a1 a2)
  | _ => none
theorem pure3_ok {α0 α1 α2 : Type} {c0 : Codec α0} {c1 : Codec α1} {c2 : Codec α2} {g : α0 → α1 → α2 → Option Prop × FV} (hb : hasBody P f) (h : ∀ a0 a1 a2, preOk (g a0 a1 a2).1 → PureOk P f [c0.enc a0, c1.enc a1, c2.enc a2] (g a0 a1 a2).2) : EntOk P f (pureE (pure3 c0 c1 c2 g)) := by
  refine pureE_ok hb fun args p v hg hp => ?_
  unfold pure3 at hg
  split at hg
  · obtain ⟨a0, h0, hg⟩ := bind_some hg
    obtain ⟨a1, h1, hg⟩ := bind_some hg
    obtain ⟨a2, h2, hg⟩ := bind_some hg
    injection hg with hg
    have e1 : p = (g a0 a1 a2).1 := by rw [hg]
    have e2 : v = (g a0 a1 a2).2 := by rw [hg]
    subst e1 e2
    refine (h a0 a1 a2 hp).le rfl fun i x y hx hy => ?_
    match i, hx, hy with
    | 0, hx, hy => injection hx with hx; injection hy with hy; subst hx hy; exact c0.sound _ _ h0
    | 1, hx, hy => injection hx with hx; injection hy with hy; subst hx hy; exact c1.sound _ _ h1
    | 2, hx, hy => injection hx with hx; injection hy with hy; subst hx hy; exact c2.sound _ _ h2
  · cases hg
/-- The same, the result under a name of its own. -/
def pureR3 {α0 α1 α2 R : Type} (c0 : Codec α0) (c1 : Codec α1) (c2 : Codec α2) (p : α0 → α1 → α2 → Option Prop) (F : α0 → α1 → α2 → R) (enc : R → FV) : Entry :=
  (pureE (pure3 c0 c1 c2 fun a0 a1 a2 => (p a0 a1 a2, enc (F a0 a1 a2)))).with fun args _ _ =>
    match args with
    | [x0, x1, x2] => (c0.dec x0).bind fun a0 => (c1.dec x1).bind fun a1 => (c2.dec x2).bind fun a2 => some fun K => ∀ s, s = F a0 a1 a2 → K (enc s) []
    | _ => none
theorem pureR3_ok {α0 α1 α2 R : Type} {c0 : Codec α0} {c1 : Codec α1} {c2 : Codec α2} {p : α0 → α1 → α2 → Option Prop} {F : α0 → α1 → α2 → R} {enc : R → FV} (hb : hasBody P f) (h : ∀ a0 a1 a2, preOk (p a0 a1 a2) → PureOk P f [c0.enc a0, c1.enc a1, c2.enc a2] (enc (F a0 a1 a2))) : EntOk P f (pureR3 c0 c1 c2 p F enc) := by
  refine (pure3_ok hb h).with (fun args H nm sr k hs hk hp K hK => ?_) (fun args H nm k hk K K' hKK hK => ?_)
  · simp only [pureE] at hs
    split at hk
    · simp only [pure3] at hs
      obtain ⟨a0, h0, hk⟩ := bind_some hk
      obtain ⟨a1, h1, hk⟩ := bind_some hk
      obtain ⟨a2, h2, hk⟩ := bind_some hk
      injection hk with hk
      subst hk
      simp only [h0, h1, h2, Option.bind_some] at hs
      injection hs with hs
      subst hs
      exact hK _ rfl
    · cases hk
  · split at hk
    · obtain ⟨a0, h0, hk⟩ := bind_some hk
      obtain ⟨a1, h1, hk⟩ := bind_some hk
      obtain ⟨a2, h2, hk⟩ := bind_some hk
      injection hk with hk
      subst hk
      exact fun s hs => hKK _ _ (hK s hs)
    · cases hk
def pure4 {α0 α1 α2 α3 : Type} (c0 : Codec α0) (c1 : Codec α1) (c2 : Codec α2) (c3 : Codec α3) (g : α0 → α1 → α2 → α3 → Option Prop × FV) : List FV → Option (Option Prop × FV)
  | [x0, x1, x2, x3] => (c0.dec x0).bind fun a0 => (c1.dec x1).bind fun a1 => (c2.dec x2).bind fun a2 => (c3.dec x3).bind fun a3 => some (g a0 a1 a2 a3)
  | _ => none
theorem pure4_ok {α0 α1 α2 α3 : Type} {c0 : Codec α0} {c1 : Codec α1} {c2 : Codec α2} {c3 : Codec α3} {g : α0 → α1 → α2 → α3 → Option Prop × FV} (hb : hasBody P f) (h : ∀ a0 a1 a2 a3, preOk (g a0 a1 a2 a3).1 → PureOk P f [c0.enc a0, c1.enc a1, c2.enc a2, c3.enc a3] (g a0 a1 a2 a3).2) : EntOk P f (pureE (pure4 c0 c1 c2 c3 g)) := by
  refine pureE_ok hb fun args p v hg hp => ?_
  unfold pure4 at hg
  split at hg
  · obtain ⟨a0, h0, hg⟩ := bind_some hg
    obtain ⟨a1, h1, hg⟩ := bind_some hg
    obtain ⟨a2, h2, hg⟩ := bind_some hg
    obtain ⟨a3, h3, hg⟩ := bind_some hg
    injection hg with hg
    have e1 : p = (g a0 a1 a2 a3).1 := by rw [hg]
    have e2 : v = (g a0 a1 a2 a3).2 := by rw [hg]
    subst e1 e2
    refine (h a0 a1 a2 a3 hp).le rfl fun i x y hx hy => ?_
    match i, hx, hy with
    | 0, hx, hy => injection hx with hx; injection hy with hy; subst hx hy; exact c0.sound _ _ h0
    | 1, hx, hy => injection hx with hx; injection hy with hy; subst hx hy; exact c1.sound _ _ h1
    | 2, hx, hy => injection hx with hx; injection hy with hy; subst hx hy; exact c2.sound _ _ h2
    | 3, hx, hy => injection hx with hx; injection hy with hy; subst hx hy; exact c3.sound _ _ h3
  · cases hg
/-- The same, the result under a name of its own. -/
def pureR4 {α0 α1 α2 α3 R : Type} (c0 : Codec α0) (c1 : Codec α1) (c2 : Codec α2) (c3 : Codec α3) (p : α0 → α1 → α2 → α3 → Option Prop) (F : α0 → α1 → α2 → α3 → R) (enc : R → FV) : Entry :=
  (pureE (pure4 c0 c1 c2 c3 fun a0 a1 a2 a3 => (p a0 a1 a2 a3, enc (F a0 a1 a2 a3)))).with fun args _ _ =>
    match args with
    | [x0, x1, x2, x3] => (c0.dec x0).bind fun a0 => (c1.dec x1).bind fun a1 => (c2.dec x2).bind fun a2 => (c3.dec x3).bind fun a3 => some fun K => ∀ s, s = F a0 a1 a2 a3 → K (enc s) []
    | _ => none
theorem pureR4_ok {α0 α1 α2 α3 R : Type} {c0 : Codec α0} {c1 : Codec α1} {c2 : Codec α2} {c3 : Codec α3} {p : α0 → α1 → α2 → α3 → Option Prop} {F : α0 → α1 → α2 → α3 → R} {enc : R → FV} (hb : hasBody P f) (h : ∀ a0 a1 a2 a3, preOk (p a0 a1 a2 a3) → PureOk P f [c0.enc a0, c1.enc a1, c2.enc a2, c3.enc a3] (enc (F a0 a1 a2 a3))) : EntOk P f (pureR4 c0 c1 c2 c3 p F enc) := by
  refine (pure4_ok hb h).with (fun args H nm sr k hs hk hp K hK => ?_) (fun args H nm k hk K K' hKK hK => ?_)
  · simp only [pureE] at hs
    split at hk
    · simp only [pure4] at hs
      obtain ⟨a0, h0, hk⟩ := bind_some hk
      obtain ⟨a1, h1, hk⟩ := bind_some hk
      obtain ⟨a2, h2, hk⟩ := bind_some hk
      obtain ⟨a3, h3, hk⟩ := bind_some hk
      injection hk with hk
      subst hk
      simp only [h0, h1, h2, h3, Option.bind_some] at hs
      injection hs with hs
      subst hs
      exact hK _ rfl
    · cases hk
  · split at hk
    · obtain ⟨a0, h0, hk⟩ := bind_some hk
      obtain ⟨a1, h1, hk⟩ := bind_some hk
      obtain ⟨a2, h2, hk⟩ := bind_some hk
      obtain ⟨a3, h3, hk⟩ := bind_some hk
      injection hk with hk
      subst hk
      exact fun s hs => hKK _ _ (hK s hs)
    · cases hk
def pure5 {α0 α1 α2 α3 α4 : Type} (c0 : Codec α0) (c1 : Codec α1) (c2 : Codec α2) (c3 : Codec α3) (c4 : Codec α4) (g : α0 → α1 → α2 → α3 → α4 → Option Prop × FV) : List FV → Option (Option Prop × FV)
  | [x0, x1, x2, x3, x4] => (c0.dec x0).bind fun a0 => (c1.dec x1).bind fun a1 => (c2.dec x2).bind fun a2 => (c3.dec x3).bind fun a3 => (c4.dec x4).bind fun a4 => some (g a0 a1 a2 a3 a4)
  | _ => none
theorem pure5_ok {α0 α1 α2 α3 α4 : Type} {c0 : Codec α0} {c1 : Codec α1} {c2 : Codec α2} {c3 : Codec α3} {c4 : Codec α4} {g : α0 → α1 → α2 → α3 → α4 → Option Prop × FV} (hb : hasBody P f) (h : ∀ a0 a1 a2 a3 a4, preOk (g a0 a1 a2 a3 a4).1 → PureOk P f [c0.enc a0, c1.enc a1, c2.enc a2, c3.enc a3, c4.enc a4] (g a0 a1 a2 a3 a4).2) : EntOk P f (pureE (pure5 c0 c1 c2 c3 c4 g)) := by
  refine pureE_ok hb fun args p v hg hp => ?_
  unfold pure5 at hg
  split at hg
  · obtain ⟨a0, h0, hg⟩ := bind_some hg
    obtain ⟨a1, h1, hg⟩ := bind_some hg
    obtain ⟨a2, h2, hg⟩ := bind_some hg
    obtain ⟨a3, h3, hg⟩ := bind_some hg
    obtain ⟨a4, h4, hg⟩ := bind_some hg
    injection hg with hg
    have e1 : p = (g a0 a1 a2 a3 a4).1 := by rw [hg]
    have e2 : v = (g a0 a1 a2 a3 a4).2 := by rw [hg]
    subst e1 e2
    refine (h a0 a1 a2 a3 a4 hp).le rfl fun i x y hx hy => ?_
    match i, hx, hy with
    | 0, hx, hy => injection hx with hx; injection hy with hy; subst hx hy; exact c0.sound _ _ h0
    | 1, hx, hy => injection hx with hx; injection hy with hy; subst hx hy; exact c1.sound _ _ h1
    | 2, hx, hy => injection hx with hx; injection hy with hy; subst hx hy; exact c2.sound _ _ h2
    | 3, hx, hy => injection hx with hx; injection hy with hy; subst hx hy; exact c3.sound _ _ h3
    | 4, hx, hy => injection hx with hx; injection hy with hy; subst hx hy; exact c4.sound _ _ h4
  · cases hg
/-- The same, the result under a name of its own. -/
def pureR5 {α0 α1 α2 α3 α4 R : Type} (c0 : Codec α0) (c1 : Codec α1) (c2 : Codec α2) (c3 : Codec α3) (c4 : Codec α4) (p : α0 → α1 → α2 → α3 → α4 → Option Prop) (F : α0 → α1 → α2 → α3 → α4 → R) (enc : R → FV) : Entry :=
  (pureE (pure5 c0 c1 c2 c3 c4 fun a0 a1 a2 a3 a4 => (p a0 a1 a2 a3 a4, enc (F a0 a1 a2 a3 a4)))).with fun args _ _ =>
    match args with
    | [x0, x1, x2, x3, x4] => (c0.dec x0).bind fun a0 => (c1.dec x1).bind fun a1 => (c2.dec x2).bind fun a2 => (c3.dec x3).bind fun a3 => (c4.dec x4).bind fun a4 => some fun K => ∀ s, s = F a0 a1 a2 a3 a4 → K (enc s) []
    | _ => none
theorem pureR5_ok {α0 α1 α2 α3 α4 R : Type} {c0 : Codec α0} {c1 : Codec α1} {c2 : Codec α2} {c3 : Codec α3} {c4 : Codec α4} {p : α0 → α1 → α2 → α3 → α4 → Option Prop} {F : α0 → α1 → α2 → α3 → α4 → R} {enc : R → FV} (hb : hasBody P f) (h : ∀ a0 a1 a2 a3 a4, preOk (p a0 a1 a2 a3 a4) → PureOk P f [c0.enc a0, c1.enc a1, c2.enc a2, c3.enc a3, c4.enc a4] (enc (F a0 a1 a2 a3 a4))) : EntOk P f (pureR5 c0 c1 c2 c3 c4 p F enc) := by
  refine (pure5_ok hb h).with (fun args H nm sr k hs hk hp K hK => ?_) (fun args H nm k hk K K' hKK hK => ?_)
  · simp only [pureE] at hs
    split at hk
    · simp only [pure5] at hs
      obtain ⟨a0, h0, hk⟩ := bind_some hk
      obtain ⟨a1, h1, hk⟩ := bind_some hk
      obtain ⟨a2, h2, hk⟩ := bind_some hk
      obtain ⟨a3, h3, hk⟩ := bind_some hk
      obtain ⟨a4, h4, hk⟩ := bind_some hk
      injection hk with hk
      subst hk
      simp only [h0, h1, h2, h3, h4, Option.bind_some] at hs
      injection hs with hs
      subst hs
      exact hK _ rfl
    · cases hk
  · split at hk
    · obtain ⟨a0, h0, hk⟩ := bind_some hk
      obtain ⟨a1, h1, hk⟩ := bind_some hk
      obtain ⟨a2, h2, hk⟩ := bind_some hk
      obtain ⟨a3, h3, hk⟩ := bind_some hk
      obtain ⟨a4, h4, hk⟩ := bind_some hk
      injection hk with hk
      subst hk
      exact fun s hs => hKK _ _ (hK s hs)
    · cases hk
def pure6 {α0 α1 α2 α3 α4 α5 : Type} (c0 : Codec α0) (c1 : Codec α1) (c2 : Codec α2) (c3 : Codec α3) (c4 : Codec α4) (c5 : Codec α5) (g : α0 → α1 → α2 → α3 → α4 → α5 → Option Prop × FV) : List FV → Option (Option Prop × FV)
  | [x0, x1, x2, x3, x4, x5] => (c0.dec x0).bind fun a0 => (c1.dec x1).bind fun a1 => (c2.dec x2).bind fun a2 => (c3.dec x3).bind fun a3 => (c4.dec x4).bind fun a4 => (c5.dec x5).bind fun a5 => some (g a0 a1 a2 a3 a4 a5)
  | _ => none
theorem pure6_ok {α0 α1 α2 α3 α4 α5 : Type} {c0 : Codec α0} {c1 : Codec α1} {c2 : Codec α2} {c3 : Codec α3} {c4 : Codec α4} {c5 : Codec α5} {g : α0 → α1 → α2 → α3 → α4 → α5 → Option Prop × FV} (hb : hasBody P f) (h : ∀ a0 a1 a2 a3 a4 a5, preOk (g a0 a1 a2 a3 a4 a5).1 → PureOk P f [c0.enc a0, c1.enc a1, c2.enc a2, c3.enc a3, c4.enc a4, c5.enc a5] (g a0 a1 a2 a3 a4 a5).2) : EntOk P f (pureE (pure6 c0 c1 c2 c3 c4 c5 g)) := by
  refine pureE_ok hb fun args p v hg hp => ?_
  unfold pure6 at hg
  split at hg
  · obtain ⟨a0, h0, hg⟩ := bind_some hg
    obtain ⟨a1, h1, hg⟩ := bind_some hg
    obtain ⟨a2, h2, hg⟩ := bind_some hg
    obtain ⟨a3, h3, hg⟩ := bind_some hg
    obtain ⟨a4, h4, hg⟩ := bind_some hg
    obtain ⟨a5, h5, hg⟩ := bind_some hg
    injection hg with hg
    have e1 : p = (g a0 a1 a2 a3 a4 a5).1 := by rw [hg]
    have e2 : v = (g a0 a1 a2 a3 a4 a5).2 := by rw [hg]
    subst e1 e2
    refine (h a0 a1 a2 a3 a4 a5 hp).le rfl fun i x y hx hy => ?_
    match i, hx, hy with
    | 0, hx, hy => injection hx with hx; injection hy with hy; subst hx hy; exact c0.sound _ _ h0
    | 1, hx, hy => injection hx with hx; injection hy with hy; subst hx hy; exact c1.sound _ _ h1
    | 2, hx, hy => injection hx with hx; injection hy with hy; subst hx hy; exact c2.sound _ _ h2
    | 3, hx, hy => injection hx with hx; injection hy with hy; subst hx hy; exact c3.sound _ _ h3
    | 4, hx, hy => injection hx with hx; injection hy with hy; subst hx hy; exact c4.sound _ _ h4
    | 5, hx, hy => injection hx with hx; injection hy with hy; subst hx hy; exact c5.sound _ _ h5
  · cases hg
/-- The same, the result under a name of its own. -/
def pureR6 {α0 α1 α2 α3 α4 α5 R : Type} (c0 : Codec α0) (c1 : Codec α1) (c2 : Codec α2) (c3 : Codec α3) (c4 : Codec α4) (c5 : Codec α5) (p : α0 → α1 → α2 → α3 → α4 → α5 → Option Prop) (F : α0 → α1 → α2 → α3 → α4 → α5 → R) (enc : R → FV) : Entry :=
  (pureE (pure6 c0 c1 c2 c3 c4 c5 fun a0 a1 a2 a3 a4 a5 => (p a0 a1 a2 a3 a4 a5, enc (F a0 a1 a2 a3 a4 a5)))).with fun args _ _ =>
    match args with
    | [x0, x1, x2, x3, x4, x5] => (c0.dec x0).bind fun a0 => (c1.dec x1).bind fun a1 => (c2.dec x2).bind fun a2 => (c3.dec x3).bind fun a3 => (c4.dec x4).bind fun a4 => (c5.dec x5).bind fun a5 => some fun K => ∀ s, s = F a0 a1 a2 a3 a4 a5 → K (enc s) []
    | _ => none
theorem pureR6_ok {α0 α1 α2 α3 α4 α5 R : Type} {c0 : Codec α0} {c1 : Codec α1} {c2 : Codec α2} {c3 : Codec α3} {c4 : Codec α4} {c5 : Codec α5} {p : α0 → α1 → α2 → α3 → α4 → α5 → Option Prop} {F : α0 → α1 → α2 → α3 → α4 → α5 → R} {enc : R → FV} (hb : hasBody P f) (h : ∀ a0 a1 a2 a3 a4 a5, preOk (p a0 a1 a2 a3 a4 a5) → PureOk P f [c0.enc a0, c1.enc a1, c2.enc a2, c3.enc a3, c4.enc a4, c5.enc a5] (enc (F a0 a1 a2 a3 a4 a5))) : EntOk P f (pureR6 c0 c1 c2 c3 c4 c5 p F enc) := by
  refine (pure6_ok hb h).with (fun args H nm sr k hs hk hp K hK => ?_) (fun args H nm k hk K K' hKK hK => ?_)
  · simp only [pureE] at hs
    split at hk
    · simp only [pure6] at hs
      obtain ⟨a0, h0, hk⟩ := bind_some hk
      obtain ⟨a1, h1, hk⟩ := bind_some hk
      obtain ⟨a2, h2, hk⟩ := bind_some hk
      obtain ⟨a3, h3, hk⟩ := bind_some hk
      obtain ⟨a4, h4, hk⟩ := bind_some hk
      obtain ⟨a5, h5, hk⟩ := bind_some hk
      injection hk with hk
      subst hk
      simp only [h0, h1, h2, h3, h4, h5, Option.bind_some] at hs
      injection hs with hs
      subst hs
      exact hK _ rfl
    · cases hk
  · split at hk
    · obtain ⟨a0, h0, hk⟩ := bind_some hk
      obtain ⟨a1, h1, hk⟩ := bind_some hk
      obtain ⟨a2, h2, hk⟩ := bind_some hk
      obtain ⟨a3, h3, hk⟩ := bind_some hk
      obtain ⟨a4, h4, hk⟩ := bind_some hk
      obtain ⟨a5, h5, hk⟩ := bind_some hk
      injection hk with hk
      subst hk
      exact fun s hs => hKK _ _ (hK s hs)
    · cases hk
def pure7 {α0 α1 α2 α3 α4 α5 α6 : Type} (c0 : Codec α0) (c1 : Codec α1) (c2 : Codec α2) (c3 : Codec α3) (c4 : Codec α4) (c5 : Codec α5) (c6 : Codec α6) (g : α0 → α1 → α2 → α3 → α4 → α5 → α6 → Option Prop × FV) : List FV → Option (Option Prop × FV)
  | [x0, x1, x2, x3, x4, x5, x6] => (c0.dec x0).bind fun a0 => (c1.dec x1).bind fun a1 => (c2.dec x2).bind fun a2 => (c3.dec x3).bind fun a3 => (c4.dec x4).bind fun a4 => (c5.dec x5).bind fun a5 => (c6.dec x6).bind fun a6 => some (g a0 a1 a2 a3 a4 a5 a6)
  | _ => none
theorem pure7_ok {α0 α1 α2 α3 α4 α5 α6 : Type} {c0 : Codec α0} {c1 : Codec α1} {c2 : Codec α2} {c3 : Codec α3} {c4 : Codec α4} {c5 : Codec α5} {c6 : Codec α6} {g : α0 → α1 → α2 → α3 → α4 → α5 → α6 → Option Prop × FV} (hb : hasBody P f) (h : ∀ a0 a1 a2 a3 a4 a5 a6, preOk (g a0 a1 a2 a3 a4 a5 a6).1 → PureOk P f [c0.enc a0, c1.enc a1, c2.enc a2, c3.enc a3, c4.enc a4, c5.enc a5, c6.enc a6] (g a0 a1 a2 a3 a4 a5 a6).2) : EntOk P f (pureE (pure7 c0 c1 c2 c3 c4 c5 c6 g)) := by
  refine pureE_ok hb fun args p v hg hp => ?_
  unfold pure7 at hg
  split at hg
  · obtain ⟨a0, h0, hg⟩ := bind_some hg
    obtain ⟨a1, h1, hg⟩ := bind_some hg
    obtain ⟨a2, h2, hg⟩ := bind_some hg
    obtain ⟨a3, h3, hg⟩ := bind_some hg
    obtain ⟨a4, h4, hg⟩ := bind_some hg
    obtain ⟨a5, h5, hg⟩ := bind_some hg
    obtain ⟨a6, h6, hg⟩ := bind_some hg
    injection hg with hg
    have e1 : p = (g a0 a1 a2 a3 a4 a5 a6).1 := by rw [hg]
    have e2 : v = (g a0 a1 a2 a3 a4 a5 a6).2 := by rw [hg]
    subst e1 e2
    refine (h a0 a1 a2 a3 a4 a5 a6 hp).le rfl fun i x y hx hy => ?_
    match i, hx, hy with
    | 0, hx, hy => injection hx with hx; injection hy with hy; subst hx hy; exact c0.sound _ _ h0
    | 1, hx, hy => injection hx with hx; injection hy with hy; subst hx hy; exact c1.sound _ _ h1
    | 2, hx, hy => injection hx with hx; injection hy with hy; subst hx hy; exact c2.sound _ _ h2
    | 3, hx, hy => injection hx with hx; injection hy with hy; subst hx hy; exact c3.sound _ _ h3
    | 4, hx, hy => injection hx with hx; injection hy with hy; subst hx hy; exact c4.sound _ _ h4
    | 5, hx, hy => injection hx with hx; injection hy with hy; subst hx hy; exact c5.sound _ _ h5
    | 6, hx, hy => injection hx with hx; injection hy with hy; subst hx hy; exact c6.sound _ _ h6
  · cases hg
/-- The same, the result under a name of its own. -/
def pureR7 {α0 α1 α2 α3 α4 α5 α6 R : Type} (c0 : Codec α0) (c1 : Codec α1) (c2 : Codec α2) (c3 : Codec α3) (c4 : Codec α4) (c5 : Codec α5) (c6 : Codec α6) (p : α0 → α1 → α2 → α3 → α4 → α5 → α6 → Option Prop) (F : α0 → α1 → α2 → α3 → α4 → α5 → α6 → R) (enc : R → FV) : Entry :=
  (pureE (pure7 c0 c1 c2 c3 c4 c5 c6 fun a0 a1 a2 a3 a4 a5 a6 => (p a0 a1 a2 a3 a4 a5 a6, enc (F a0 a1 a2 a3 a4 a5 a6)))).with fun args _ _ =>
    match args with
    | [x0, x1, x2, x3, x4, x5, x6] => (c0.dec x0).bind fun a0 => (c1.dec x1).bind fun a1 => (c2.dec x2).bind fun a2 => (c3.dec x3).bind fun a3 => (c4.dec x4).bind fun a4 => (c5.dec x5).bind fun a5 => (c6.dec x6).bind fun a6 => some fun K => ∀ s, s = F a0 a1 a2 a3 a4 a5 a6 → K (enc s) []
    | _ => none
theorem pureR7_ok {α0 α1 α2 α3 α4 α5 α6 R : Type} {c0 : Codec α0} {c1 : Codec α1} {c2 : Codec α2} {c3 : Codec α3} {c4 : Codec α4} {c5 : Codec α5} {c6 : Codec α6} {p : α0 → α1 → α2 → α3 → α4 → α5 → α6 → Option Prop} {F : α0 → α1 → α2 → α3 → α4 → α5 → α6 → R} {enc : R → FV} (hb : hasBody P f) (h : ∀ a0 a1 a2 a3 a4 a5 a6, preOk (p a0 a1 a2 a3 a4 a5 a6) → PureOk P f [c0.enc a0, c1.enc a1, c2.enc a2, c3.enc a3, c4.enc a4, c5.enc a5, c6.enc a6] (enc (F a0 a1 a2 a3 a4 a5 a6))) : EntOk P f (pureR7 c0 c1 c2 c3 c4 c5 c6 p F enc) := by
  refine (pure7_ok hb h).with (fun args H nm sr k hs hk hp K hK => ?_) (fun args H nm k hk K K' hKK hK => ?_)
  · simp only [pureE] at hs
    split at hk
    · simp only [pure7] at hs
      obtain ⟨a0, h0, hk⟩ := bind_some hk
      obtain ⟨a1, h1, hk⟩ := bind_some hk
      obtain ⟨a2, h2, hk⟩ := bind_some hk
      obtain ⟨a3, h3, hk⟩ := bind_some hk
      obtain ⟨a4, h4, hk⟩ := bind_some hk
      obtain ⟨a5, h5, hk⟩ := bind_some hk
      obtain ⟨a6, h6, hk⟩ := bind_some hk
      injection hk with hk
      subst hk
      simp only [h0, h1, h2, h3, h4, h5, h6, Option.bind_some] at hs
      injection hs with hs
      subst hs
      exact hK _ rfl
    · cases hk
  · split at hk
    · obtain ⟨a0, h0, hk⟩ := bind_some hk
      obtain ⟨a1, h1, hk⟩ := bind_some hk
      obtain ⟨a2, h2, hk⟩ := bind_some hk
      obtain ⟨a3, h3, hk⟩ := bind_some hk
      obtain ⟨a4, h4, hk⟩ := bind_some hk
      obtain ⟨a5, h5, hk⟩ := bind_some hk
      obtain ⟨a6, h6, hk⟩ := bind_some hk
      injection hk with hk
      subst hk
      exact fun s hs => hKK _ _ (hK s hs)
    · cases hk
end
end Go.Proofs.Ytolliidpmgncdaa.AX
