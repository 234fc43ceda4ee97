/- Contracts of functions: what they ask and what they return; how they are proved and used. -/
import Derived.Test.YtjknkfjhcapocaaBLib
import Derived.Test.YtjknkfjhcapocaaBDet
namespace Go.Proofs.Ytjknkfjhcapocaa.AX
open Go.RowKit
set_option linter.unusedVariables false

/-! ### Lists of contracts -/
abbrev Entry := List FV → Hp → Nat → Nat → Option Qf
structure EntOk (P : Program) (f : FuncId) (x : Entry) : Prop where
  ok : ∀ args H nm wd q, 0 < wd → x args H nm wd = some q → ∀ K, q K → ∃ v e rd, CallR P f args H nm wd ⟨none, v, e, rd⟩ ∧ K v e rd
  mono : ∀ args H nm wd q, x args H nm wd = some q → ∀ K K' : FV → Hp → List Nat → Prop, (∀ v e rd, K v e rd → K' v e rd) → q K → q K'
abbrev CsL := List (Nat × Option Entry)
def mkQ (l : CsL) : Qs := fun f args H nm wd => match look none l f with
  | some e => e args H nm wd
  | none => none
def AllOk (P : Program) : CsL → Prop
  | [] => True
  | (_, none) :: l => AllOk P l
  | (f, some g) :: l => EntOk P f g ∧ AllOk P l
theorem AllOk.at {P : Program} : ∀ {l : CsL}, AllOk P l → ∀ f g, look none l f = some g → EntOk P f g := by
  intro l
  induction l with
  | nil => intro _ f g h; cases h
  | cons p l ih =>
    obtain ⟨k, x⟩ := p
    intro h f g hf
    by_cases hk : f = k
    · subst hk
      rw [look_cons_eq] at hf
      subst hf
      exact h.1
    · rw [look_cons_ne _ _ _ hk] at hf
      cases x with
      | none => exact ih h f g hf
      | some y => exact ih h.2 f g hf
theorem append_ok {P : Program} : ∀ {a b : CsL}, AllOk P a → AllOk P b → AllOk P (a ++ b) := by
  intro a
  induction a with
  | nil => intro b _ h; exact h
  | cons p a ih =>
    intro b h1 h2
    obtain ⟨k, x⟩ := p
    cases x with
    | none => exact ih h1 h2
    | some y => exact ⟨h1.1, ih h1.2 h2⟩
theorem q_of {P : Program} {l : CsL} (h : AllOk P l) : QsOk P (mkQ l) := by
  intro f args H nm wd q hwd hq
  unfold mkQ at hq
  split at hq
  · rename_i g hg
    exact (h.at f g hg).ok args H nm wd q hwd hq
  · cases hq
theorem mono_of {P : Program} {l : CsL} (h : AllOk P l) : QsMono (mkQ l) := by
  intro f args H nm wd q hq
  unfold mkQ at hq
  split at hq
  · rename_i g hg
    exact (h.at f g hg).mono args H nm wd q hq
  · cases hq

/-! ### Arguments, as the callee sees them -/
/-- The owned blocks but those with names in rd. -/
def wrBut (r : Ren) (H : Hp) (rd : List Nat) (b : Nat) : Prop := ∃ nm e x, hget H nm = some e ∧ r nm = some x ∧ x.b = b ∧ nm ∉ rd
def Bo (H : Hp) (rd : List Nat) (x y : FV) : Prop := ∀ cx r w v, St cx r H w → x.rel r cx.X (wr r H) w v → y.rel (fun _ => none) (fun b => cx.X b ∨ wr r H b) (wrBut r H rd) w v
def BoL (H : Hp) (rd : List Nat) (l l' : List FV) : Prop := l.length = l'.length ∧ ∀ (i : Nat) x y, l[i]? = some x → l'[i]? = some y → Bo H rd x y
theorem FV.rel_w {r : Ren} {X W W' : Nat → Prop} {w : World} (h : ∀ b, W' b → W b) (x : FV) (v : Value) (hx : x.rel r X W w v) : x.rel r X W' w v :=
  FV.rel_ext ⟨fun _ _ h => h, Nat.le_refl _, fun _ _ _ => rfl, fun b _ hb => h b hb⟩ x v hx
theorem CV.rel_w {r : Ren} {X W W' : Nat → Prop} {w : World} (h : ∀ b, W' b → W b) (x : CV) (v : Value) (hx : x.rel r X W w v) : x.rel r X W' w v :=
  CV.rel_ext ⟨fun _ _ h => h, Nat.le_refl _, fun _ _ _ => rfl, fun b _ hb => h b hb⟩ x v hx
theorem Bo.more {H : Hp} {rd rd' : List Nat} {x y : FV} (h : Bo H rd x y) (hs : ∀ k ∈ rd, k ∈ rd') : Bo H rd' x y := fun cx r w v st hx =>
  FV.rel_w (fun b ⟨nm, e, x, h1, h2, h3, h4⟩ => ⟨nm, e, x, h1, h2, h3, fun h => h4 (hs nm h)⟩) _ _ (h cx r w v st hx)

/-- Codes: values of a type of one's own as arguments. -/
structure Codec (α : Type) where
  enc : α → FV
  dec : Hp → FV → Option (α × Option Prop × List Nat)
  sound : ∀ H H' x a p rd, dec H x = some (a, p, rd) → preOk p → (∀ k ∈ rd, hget H k = hget H' k) → Bo H' rd x (enc a)
/-- Codes of lists of arguments. -/
structure AC (α : Type) where
  enc : α → List FV
  dec : Hp → List FV → Option (α × Option Prop × List Nat)
  sound : ∀ H H' l a p rd, dec H l = some (a, p, rd) → preOk p → (∀ k ∈ rd, hget H k = hget H' k) → BoL H' rd l (enc a)
def AC.nil : AC Unit where
  enc _ := []
  dec _ l := match l with
    | [] => some ((), none, [])
    | _ => none
  sound H H' l a p rd h _ _ := by
    split at h
    · exact ⟨rfl, fun i x y h => by cases i <;> cases h⟩
    · cases h
def AC.cons {α β : Type} (c : Codec α) (d : AC β) : AC (α × β) where
  enc a := c.enc a.1 :: d.enc a.2
  dec H l := match l with
    | x :: l => match c.dec H x with
      | some (a, p, rd) => match d.dec H l with
        | some (b, q, rd') => some ((a, b), both p q, rd ++ rd')
        | none => none
      | none => none
    | [] => none
  sound H H' l a p rd h hp hh := by
    split at h
    · rename_i x l
      split at h
      · rename_i a0 p0 rd0 h0
        split at h
        · rename_i b q rd' h1
          injection h with h
          injection h with e1 e2
          injection e2 with e2 e3
          subst e1 e2 e3
          obtain ⟨hp1, hp2⟩ := both_ok.1 hp
          have s1 := c.sound H H' x a0 p0 rd0 h0 hp1 (fun k hk => hh k (List.mem_append_left _ hk))
          obtain ⟨s2, s3⟩ := d.sound H H' l b q rd' h1 hp2 (fun k hk => hh k (List.mem_append_right _ hk))
          refine ⟨by simp [s2], fun i x y hx hy => ?_⟩
          cases i with
          | zero => simp only [List.getElem?_cons_zero, Option.some.injEq] at hx hy; subst hx hy; exact s1.more fun k hk => List.mem_append_left _ hk
          | succ i => exact (s3 i x y (by simpa using hx) (by simpa using hy)).more fun k hk => List.mem_append_right _ hk
        · cases h
      · cases h
    · cases h
def pAnd : Option Prop → Prop → Prop
  | none, q => q
  | some p, q => p ∧ q
theorem pAnd_iff {p : Option Prop} {q : Prop} : pAnd p q ↔ preOk p ∧ q := by cases p <;> simp [pAnd, preOk]

/-! ### Functions that keep all memory and hand back nothing of it that is owned -/
/-- The result is at most the spec, when nothing is owned any more. -/
structure Done (H : Hp) (x spec : FV) : Prop where
  le : LeF ⟨H, [], [], 0, true⟩ x spec
def PureOk (P : Program) (f : FuncId) (args : List FV) (spec : FV) : Prop :=
  ∀ X w (vals : Array Value), RelL (fun _ => none) X (fun _ => False) w args vals → (∀ b, X b → b < w.heap.size) → Calls P f vals w fun e w' => ∃ v, e = .returned v ∧ Below w.heap.size w w' ∧ spec.rel (fun _ => none) X X w' v

theorem st_start {w : World} {X : Nat → Prop} (hX : ∀ b, X b → b < w.heap.size) : St ⟨w, fun _ => False, fun _ => False, X, fun _ => none⟩ (fun _ => none) [] w :=
  ⟨rfl, rfl, rfl, Nat.le_refl _, fun _ _ _ => rfl, hX, (fun _ _ h => by cases h), (fun _ _ _ h => by cases h), (fun _ _ _ _ _ _ h => by cases h), (fun _ _ h => by cases h), fun _ _ h => by cases h⟩
theorem wr_nil {r : Ren} : wr r [] = fun _ => False := by
  funext b
  simp [wr, hget, look]
theorem ren_nil {H : Hp} {r : Ren} : Wc.ren ⟨H, [], [], 0, true⟩ r = fun _ => none := by
  funext k
  have : Nat.blt k 0 = false := by
    cases hb : Nat.blt k 0 with
    | false => rfl
    | true => exact absurd (Nat.le_of_ble_eq_true hb) (by omega)
  simp [Wc.ren, Wc.src, lookR, this]

section
variable {P : Program} {T : Tys} {Q : Qs} {wd : Nat}
theorem pure_intro (hwd : 0 < wd) (hT : TysOk P T) (hQ : QsOk P Q) (hm : P.follows .mixedOrders = true) {f : FuncId} {fn : Func} {c : Code} (hf : P.funcs[f]? = some fn) (hb : fn.body = some c) (args : List FV) (hn : args.length ≤ fn.ntmps) (spec : FV)
    (h : exec T Q wd fn.ntmps 0 c (argFr args 0) [] 0 (endH T fn.results.toList fun x H _ => Done H x spec)) : PureOk P f args spec := by
  intro X w vals hrel hX
  have hrel' : RelL (fun _ => none) X (wr (fun _ => none) []) w args vals := by rw [wr_nil]; exact hrel
  refine (fn_run hwd hT hQ hm hf hb hn h (fun _ _ h => by cases h) (st_start hX) hrel' (fun _ _ => ⟨rfl, rfl⟩)).mono fun e w' he => ?_
  obtain ⟨v, r', x, Hf, nf, rfl, hfin, st, _, hx, _⟩ := he
  refine ⟨v, rfl, ⟨st.os, st.tape, st.output, st.size, fun b hb => st.kept b hb id⟩, ?_⟩
  have h1 := hfin.le (fun k e' h => by cases h) _ r' w' v st hx
  rw [ren_nil] at h1
  refine FV.rel_w (fun b hb => ?_) _ _ h1
  exact .inr ⟨rfl, hb⟩
end

theorem callR_pure {P : Program} {f : FuncId} (hb : hasBody P f) {args args' : List FV} {H : Hp} {rd : List Nat} {nm wd : Nat} {spec : FV} (hbo : ∀ H', (∀ k ∈ rd, hget H k = hget H' k) → BoL H' rd args args') (h : PureOk P f args' spec) : CallR P f args H nm wd ⟨none, spec, [], rd⟩ := by
  refine ⟨hb, fun H' hh cx r w vals st hfr _ hrel => ?_⟩
  obtain ⟨h1, h2⟩ := hbo H' hh
  refine (h (fun b => cx.X b ∨ wr r H' b) w vals ⟨hrel.1.trans h1, fun i y u hy hu => ?_⟩ ?_).mono fun e w' he => ?_
  · have hi : i < args.length := by rw [h1]; exact (List.getElem?_eq_some_iff.1 hy).1
    exact FV.rel_w (fun _ h => h.elim) _ _ (h2 i _ y (List.getElem?_eq_getElem hi) hy cx r w u st (hrel.2 i _ u (List.getElem?_eq_getElem hi) hu))
  · rintro b (hx | ⟨k, e, x, _, hx, rfl⟩)
    · exact Nat.lt_of_lt_of_le (st.xlt b hx) st.size
    · exact (st.dom k x hx).1
  · obtain ⟨v, rfl, hbel, hv⟩ := he
    obtain ⟨g1, g2⟩ := st.below hbel
    exact ⟨v, rfl, r, g1, g2, fun _ _ => rfl, fun k e he => .inr ⟨e, he⟩, FV.rel_into (fun b hb => .inl hb) (fun b hb => .inr hb) _ _ hv⟩

/-- The entry of such a function: its result stands under a name of its own. -/
def pureE {α R : Type} (A : AC α) (p : α → Prop) (F : α → R) (enc : R → FV) : Entry := fun args H _ _ =>
  match A.dec H args with
  | some (a, q, rd) => some fun K => pAnd q (p a ∧ ∀ s, s = F a → K (enc s) [] rd)
  | none => none
theorem pureE_ok {α R : Type} {A : AC α} {p : α → Prop} {F : α → R} {enc : R → FV} {P : Program} {f : FuncId} (hb : hasBody P f) (h : ∀ a, p a → PureOk P f (A.enc a) (enc (F a))) : EntOk P f (pureE A p F enc) := by
  refine ⟨fun args H nm wd q _ hq K hK => ?_, fun args H nm wd q hq K K' hKK hK => ?_⟩
  · unfold pureE at hq
    split at hq
    · rename_i a pr rd hd
      injection hq with hq
      subst hq
      obtain ⟨h1, h2, h3⟩ := pAnd_iff.1 hK
      exact ⟨_, _, _, callR_pure hb (fun H' hh => A.sound H H' args a pr rd hd h1 hh) (h a h2), h3 _ rfl⟩
    · cases hq
  · unfold pureE at hq
    split at hq
    · injection hq with hq
      subst hq
      obtain ⟨h1, h2, h3⟩ := pAnd_iff.1 hK
      exact pAnd_iff.2 ⟨h1, h2, fun s hs => hKK _ _ _ (h3 s hs)⟩
    · cases hq

/-! ### Functions that hand back one new block -/
def resN (kd : Option Nat) (rest : Option (List EV)) (nm : Nat) : FV :=
  match kd, rest with
  | some n, none => one (.os nm 0 n)
  | some n, some l => .tup (.c (.os nm 0 n) :: l)
  | none, none => one (.ptr nm 0 0 false)
  | none, some l => .tup (.c (.ptr nm 0 0 false) :: l)
/-- Speaks of no name. -/
def NF (x : CV) : Prop := ∀ r r' X W w v, x.rel r X W w v → x.rel r' X W w v
def NFE (x : EV) : Prop := ∀ r r' X W w v, x.rel r X W w v → x.rel r' X W w v
theorem nf_int {k : IntKind} {a : Int} : NF (.int k a) := fun _ _ _ _ _ _ h => h
theorem nf_bool {a : Bool} : NF (.bool a) := fun _ _ _ _ _ _ h => h
theorem nf_nils : NF .nils := fun _ _ _ _ _ _ h => h
theorem nf_sl {sh : Bool} {n sz : Nat} {f : Nat → Nat → CV} (h : ∀ i, i < n → ∀ j, j < sz → NF (f i j)) : NF (.sl sh n sz f) := by
  rintro r r' X W w v ⟨a, cap, rfl, h1, h2⟩
  refine ⟨a, cap, rfl, h1, fun h0 => ?_⟩
  obtain ⟨ad, rfl, hs, ho, hX, hlt, hc⟩ := h2 h0
  refine ⟨ad, rfl, hs, ho, hX, hlt, fun i hi j hj => ?_⟩
  obtain ⟨u, hu, hr⟩ := hc i hi j hj
  exact ⟨u, hu, h i hi j hj _ _ _ _ _ _ hr⟩
theorem nfE_c {x : CV} (h : NF x) : NFE (.c x) := h
/-- The place of the new block. -/
def at0 (o : Option Bi) : Ren := fun k => if k = 0 then o else none
def orB (X : Nat → Prop) (o : Option Bi) (b : Nat) : Prop := X b ∨ ∃ x, o = some x ∧ x.b = b
def NewOk (P : Program) (f : FuncId) (args : List FV) (kd : Option Nat) (rest : Option (List EV)) (e' : Ent) : Prop :=
  ∀ X w (vals : Array Value), RelL (fun _ => none) X (fun _ => False) w args vals → (∀ b, X b → b < w.heap.size) → Calls P f vals w fun e w' => ∃ v o, e = .returned v ∧ Below w.heap.size w w' ∧ (∀ x, o = some x → w.heap.size ≤ x.b ∧ x.b < w'.heap.size) ∧
    EntIn (fun _ => none) X (orB X o) w' e' o w'.heap ∧ (resN kd rest 0).rel (at0 o) X (orB X o) w' v
structure FinN (kd : Option Nat) (rest : Option (List EV)) (e' : Ent) (x : FV) (H : Hp) : Prop where
  ex : ∃ rho, LeF ⟨H, [(0, some e')], [(0, rho)], 1, true⟩ x (resN kd rest 0) ∧ WkE ⟨H, [(0, some e')], [(0, rho)], 1, true⟩ e' rho

section
variable {P : Program} {T : Tys} {Q : Qs} {wd : Nat}
theorem new_intro (hwd : 0 < wd) (hT : TysOk P T) (hQ : QsOk P Q) (hm : P.follows .mixedOrders = true) {f : FuncId} {fn : Func} {c : Code} (hf : P.funcs[f]? = some fn) (hb : fn.body = some c) (args : List FV) (hn : args.length ≤ fn.ntmps) {kd : Option Nat} {rest : Option (List EV)} {e' : Ent}
    (hnf : ∀ i, i < e'.n → ∀ j, j < e'.sz → NF (e'.f i j)) (h : exec T Q wd fn.ntmps 0 c (argFr args 0) [] 0 (endH T fn.results.toList fun x H _ => FinN kd rest e' x H)) : NewOk P f args kd rest e' := by
  intro X w vals hrel hX
  have hrel' : RelL (fun _ => none) X (wr (fun _ => none) []) w args vals := by rw [wr_nil]; exact hrel
  refine (fn_run hwd hT hQ hm hf hb hn h (fun _ _ h => by cases h) (st_start hX) hrel' (fun _ _ => ⟨rfl, rfl⟩)).mono fun e w' he => ?_
  obtain ⟨v, r', x, Hf, nf, rfl, ⟨rho, hfin, hent⟩, st, _, hx, _⟩ := he
  have hsrc : ∀ k, Wc.src ⟨Hf, [(0, some e')], [(0, rho)], 1, true⟩ k = if k = 0 then rho else none := fun k => by
    unfold Wc.src
    simp only [lookR]
    by_cases hk : k = 0
    · subst hk; simp
    · have h1 : Nat.beq k 0 = false := by
        cases hb : Nat.beq k 0 with
        | false => rfl
        | true => exact absurd (Nat.eq_of_beq_eq_true hb) hk
      have h2 : Nat.blt k 1 = false := by
        cases hb : Nat.blt k 1 with
        | false => rfl
        | true => have := Nat.le_of_ble_eq_true hb; omega
      simp [h1, h2, hk]
  have hren : Wc.ren ⟨Hf, [(0, some e')], [(0, rho)], 1, true⟩ r' = at0 (rho.bind r') := by
    funext k
    unfold Wc.ren at0
    rw [hsrc]
    by_cases hk : k = 0
    · rw [if_pos hk, if_pos hk]; cases rho <;> rfl
    · rw [if_neg hk, if_neg hk]
  have hlive : Wc.Live ⟨Hf, [(0, some e')], [(0, rho)], 1, true⟩ := fun k e1 he1 k0 hk0 => by
    rw [hsrc] at hk0
    split at hk0
    · subst hk0
      unfold WkE at hent
      simp only at hent
      split at hent
      · rename_i e2 hh; exact ⟨e2, hh⟩
      · exact hent.elim
    · cases hk0
  have hwr : ∀ b, orB X (rho.bind r') b → Wc.wr ⟨Hf, [(0, some e')], [(0, rho)], 1, true⟩ ⟨w, fun _ => False, fun _ => False, X, fun _ => none⟩ r' b := fun b hb => by
    rcases hb with hb | ⟨y, hy, hyb⟩
    · exact .inr ⟨rfl, hb⟩
    · refine .inl ⟨0, e', y, look_cons_eq _ _ _ _, ?_, hyb⟩
      rw [hren]; show (if 0 = 0 then _ else _) = _; rw [if_pos rfl]; exact hy
  refine ⟨v, rho.bind r', rfl, ⟨st.os, st.tape, st.output, st.size, fun b hb => st.kept b hb id⟩, fun y hy => ?_, ?_, ?_⟩
  · cases rho with
    | none => cases hy
    | some j =>
      have hy' : r' j = some y := hy
      obtain ⟨d1, d2, _⟩ := st.dom j y hy'
      exact ⟨d2.resolve_right id, d1⟩
  · cases rho with
    | none =>
      obtain ⟨g1, g2, g3⟩ := hent
      exact ⟨g3, (fun h => by rw [g2] at h; cases h), .inl ⟨rfl, g1⟩⟩
    | some j =>
      unfold WkE at hent
      simp only at hent
      split at hent
      · rename_i e2 hh
        obtain ⟨g1, g2, g3⟩ := st.blk j e2 hh
        refine ⟨by rw [← hent.sz]; exact g1, (fun h => by rw [← hent.n]; exact g2 (by rw [hent.v]; exact h)), ?_⟩
        rcases g3 with ⟨g3, g4⟩ | ⟨y, cs, c1, c2, c3, c4, c5, c6⟩
        · exact .inl ⟨g3, by rw [← hent.n]; exact g4⟩
        · refine .inr ⟨y, cs, c1, by rw [← hent.sz]; exact c2, by rw [← hent.t]; exact c3, c4, by rw [← hent.n]; exact c5, fun i hi j' hj u hu => ?_⟩
          have hi' := hi
          have hj' := hj
          rw [← hent.n] at hi
          rw [← hent.sz] at hj hu
          have h1 := hent.f i hi j' hj hlive _ r' w' u st (c6 i hi j' hj u hu)
          exact CV.rel_w hwr _ _ (hnf i hi' j' hj' _ _ _ _ _ _ h1)
      · exact hent.elim
  · have h1 := hfin hlive _ r' w' v st hx
    rw [hren] at h1
    exact FV.rel_w hwr _ _ h1
end

theorem resN_into {kd : Option Nat} {rest : Option (List EV)} {o : Option Bi} {nm : Nat} {r : Ren} {X' X W : Nat → Prop} {w : World} {v : Value} (hr : r nm = o) (hrest : ∀ l, rest = some l → ∀ x ∈ l, NFE x) (hX : ∀ b, X b → orB X' o b) (hW : ∀ b, W b → orB X' o b) (h : (resN kd rest 0).rel (at0 o) X' (orB X' o) w v) : (resN kd rest nm).rel r X W w v := by
  have hos : ∀ n u, (CV.os 0 0 n).rel (at0 o) X' (orB X' o) w u → (CV.os nm 0 n).rel r X W w u := by
    rintro n u ⟨a, cap, rfl, h1, h2⟩
    refine ⟨a, cap, rfl, h1, fun h0 => ?_⟩
    obtain ⟨x, hx, h3⟩ := h2 h0
    exact ⟨x, by rw [hr]; exact hx, h3⟩
  have hpt : ∀ u, (CV.ptr 0 0 0 false).rel (at0 o) X' (orB X' o) w u → (CV.ptr nm 0 0 false).rel r X W w u := by
    rintro u ⟨x, hx, rfl⟩
    exact ⟨x, by rw [hr]; exact hx, rfl⟩
  have htup : ∀ (a b : CV) l, rest = some l → (∀ u, a.rel (at0 o) X' (orB X' o) w u → b.rel r X W w u) → (FV.tup (.c a :: l)).rel (at0 o) X' (orB X' o) w v → (FV.tup (.c b :: l)).rel r X W w v := by
    rintro a b l hl hab ⟨vs, rfl, h1, h2⟩
    refine ⟨vs, rfl, by simpa using h1, fun i x u hx hu => ?_⟩
    cases i with
    | zero =>
      simp only [List.getElem?_cons_zero, Option.some.injEq] at hx
      subst hx
      exact hab u (h2 0 _ u rfl hu)
    | succ i =>
      have hx' : l[i]? = some x := by simpa using hx
      have := hrest l hl x (List.mem_of_getElem? hx') _ (fun _ => none) _ _ _ _ (h2 (i + 1) x u (by simpa using hx) hu)
      exact EV.rel_into hX hW _ _ this
  cases kd with
  | some n =>
    cases rest with
    | none => exact hos n v h
    | some l => exact htup _ _ l rfl (hos n) h
  | none =>
    cases rest with
    | none => exact hpt v h
    | some l => exact htup _ _ l rfl hpt h

theorem callR_new {P : Program} {f : FuncId} (hb : hasBody P f) {args args' : List FV} {H : Hp} {rd : List Nat} {nm wd : Nat} (hwd : 0 < wd) {kd : Option Nat} {rest : Option (List EV)} {e' : Ent} (hrest : ∀ l, rest = some l → ∀ x ∈ l, NFE x)
    (hbo : ∀ H', (∀ k ∈ rd, hget H k = hget H' k) → BoL H' rd args args') (h : NewOk P f args' kd rest e') : CallR P f args H nm wd ⟨none, resN kd rest nm, [(nm, some e')], rd⟩ := by
  refine ⟨hb, fun H' hh cx r w vals st hfr _ hrel => ?_⟩
  obtain ⟨h1, h2⟩ := hbo H' hh
  have hXlt : ∀ b, (cx.X b ∨ wr r H' b) → b < w.heap.size := by
    rintro b (hx | ⟨k, e, x, _, hx, rfl⟩)
    · exact Nat.lt_of_lt_of_le (st.xlt b hx) st.size
    · exact (st.dom k x hx).1
  refine (h (fun b => cx.X b ∨ wr r H' b) w vals ⟨hrel.1.trans h1, fun i y u hy hu => ?_⟩ hXlt).mono fun e w' he => ?_
  · have hi : i < args.length := by rw [h1]; exact (List.getElem?_eq_some_iff.1 hy).1
    exact FV.rel_w (fun _ h => h.elim) _ _ (h2 i _ y (List.getElem?_eq_getElem hi) hy cx r w u st (hrel.2 i _ u (List.getElem?_eq_getElem hi) hu))
  · obtain ⟨v, o, rfl, hbel, ho, hent, hv⟩ := he
    obtain ⟨hr0, hh0⟩ := hfr nm (Nat.le_refl _) (by omega)
    have hr2 : ∀ k x, r k = some x → (if k = nm then o else r k) = some x := fun k x hx => by
      by_cases hk : k = nm
      · subst hk; rw [hr0] at hx; cases hx
      · rw [if_neg hk]; exact hx
    have hl0 : hget ((nm, some e') :: H') nm = some e' := look_cons_eq _ _ _ _
    have hl : ∀ k, k ≠ nm → hget ((nm, some e') :: H') k = hget H' k := fun k hk => look_cons_ne _ _ _ hk
    have hwr2 : ∀ b, wr (fun k => if k = nm then o else r k) ((nm, some e') :: H') b → orB (fun b => cx.X b ∨ wr r H' b) o b := by
      rintro b ⟨k, e, x, he, hx, hxb⟩
      by_cases hk : k = nm
      · subst hk
        have hx' : (if k = k then o else r k) = some x := hx
        rw [if_pos rfl] at hx'
        exact .inr ⟨x, hx', hxb⟩
      · have hx' : (if k = nm then o else r k) = some x := hx
        rw [if_neg hk] at hx'
        rw [hl k hk] at he
        exact .inl (.inr ⟨k, e, x, he, hx', hxb⟩)
    -- first the memory, then the new name
    obtain ⟨g1, g2⟩ := st.below hbel
    have hdomo : ∀ x, o = some x → x.b < w'.heap.size ∧ cx.w0.heap.size ≤ x.b ∧ ¬ cx.X x.b := fun x hx => by
      obtain ⟨a1, a2⟩ := ho x hx
      refine ⟨a2, Nat.le_trans st.size a1, fun hX => ?_⟩
      have := Nat.lt_of_lt_of_le (st.xlt _ hX) st.size
      omega
    have hE : Ext r (wr r H') w (fun k => if k = nm then o else r k) (wr (fun k => if k = nm then o else r k) ((nm, some e') :: H')) w' := by
      refine ⟨hr2, hbel.size, fun b hb _ => hbel.block b hb, fun b hb hw => ?_⟩
      rcases hwr2 b hw with (hX | hw) | ⟨x, hx, hxb⟩
      · obtain ⟨k, e, x, he, hx, hxb⟩ := hw
        by_cases hk : k = nm
        · subst hk
          have hx' : (if k = k then o else r k) = some x := hx
          rw [if_pos rfl] at hx'
          obtain ⟨a1, a2⟩ := ho x hx'
          omega
        · have hx' : (if k = nm then o else r k) = some x := hx
          rw [if_neg hk] at hx'
          rw [hl k hk] at he
          exact ⟨k, e, x, he, hx', hxb⟩
      · exact hw
      · obtain ⟨a1, a2⟩ := ho x hx; omega
    refine ⟨v, rfl, fun k => if k = nm then o else r k, hE, ⟨g2.os, g2.tape, g2.output, g2.size, g2.kept, g2.xlt, fun k x hx => ?_, fun k e x he hx => ?_, fun n m e1 e2 x y hn hm hx hy hxy => ?_, fun k b hk => hr2 k b (g2.pin k b hk), fun k e he => ?_⟩, fun k hk => if_neg (by omega), fun k e he => ?_, ?_⟩
    · by_cases hk : k = nm
      · simp only [if_pos hk] at hx
        obtain ⟨a1, a2, a3⟩ := hdomo x hx
        exact ⟨a1, .inl a2, a3⟩
      · simp only [if_neg hk] at hx
        exact g2.dom k x hx
    · by_cases hk : k = nm
      · simp only [if_pos hk] at hx
        exact .inl (hdomo x hx).2.1
      · simp only [if_neg hk] at hx
        have he' : hget ((nm, some e') :: H') k = some e := he
        rw [hl k hk] at he'
        exact g2.ow k e x he' hx
    · have lt : ∀ k x, k ≠ nm → (if k = nm then o else r k) = some x → x.b < w.heap.size := fun k x hk hx => by rw [if_neg hk] at hx; exact (st.dom k x hx).1
      have ge : ∀ x, (if nm = nm then o else r nm) = some x → w.heap.size ≤ x.b := fun x hx => by rw [if_pos rfl] at hx; exact (ho x hx).1
      by_cases h : n = nm
      · by_cases h' : m = nm
        · omega
        · have := lt m y h' hy; subst h; have := ge x hx; omega
      · by_cases h' : m = nm
        · have := lt n x h hx; subst h'; have := ge y hy; omega
        · have hn' : hget ((nm, some e') :: H') n = some e1 := hn
          have hm' : hget ((nm, some e') :: H') m = some e2 := hm
          rw [hl n h] at hn'; rw [hl m h'] at hm'
          simp only [if_neg h] at hx; simp only [if_neg h'] at hy
          exact st.inj n m e1 e2 x y hn' hm' hx hy hxy
    · have he' : hget ((nm, some e') :: H') k = some e := he
      by_cases hk : k = nm
      · subst hk
        rw [hl0] at he'; injection he' with he'; subst he'
        simp only [if_true]
        obtain ⟨c1, c2, c3⟩ := hent
        refine ⟨c1, c2, c3.imp id ?_⟩
        rintro ⟨x, cs, d1, d2, d3, d4, d5, d6⟩
        exact ⟨x, cs, d1, d2, d3, d4, d5, fun i hi j hj u hu => CV.rel_into (fun b hb => .inl (.inl hb)) hwr2 _ _ (d6 i hi j hj u hu)⟩
      · rw [hl k hk] at he'
        simp only [if_neg hk]
        have hold := st.old he' rfl (w' := w') fun x hx => hbel.block _ (st.dom k x hx).1
        exact hold.ext hE
    · have he' : hget ((nm, some e') :: H') k = some e := he
      by_cases hk : k = nm
      · exact .inl ⟨.inl (by omega), by omega⟩
      · rw [hl k hk] at he'; exact .inr ⟨e, he'⟩
    · exact resN_into (if_pos rfl) hrest (fun b hb => .inl (.inl hb)) hwr2 hv

/-- The entry of a function that hands back one new block. -/
def newE {α R : Type} (A : AC α) (p : α → Prop) (F : α → R) (kd : R → Option Nat) (rest : R → Option (List EV)) (ent : R → Ent) : Entry := fun args H nm _ =>
  match A.dec H args with
  | some (a, q, rd) => some fun K => pAnd q (p a ∧ ∀ s, s = F a → K (resN (kd s) (rest s) nm) [(nm, some (ent s))] rd)
  | none => none
theorem newE_ok {α R : Type} {A : AC α} {p : α → Prop} {F : α → R} {kd : R → Option Nat} {rest : R → Option (List EV)} {ent : R → Ent} {P : Program} {f : FuncId} (hb : hasBody P f) (hrest : ∀ s l, rest s = some l → ∀ x ∈ l, NFE x) (h : ∀ a, p a → NewOk P f (A.enc a) (kd (F a)) (rest (F a)) (ent (F a))) : EntOk P f (newE A p F kd rest ent) := by
  refine ⟨fun args H nm wd q hwd hq K hK => ?_, fun args H nm wd q hq K K' hKK hK => ?_⟩
  · unfold newE at hq
    split at hq
    · rename_i a pr rd hd
      injection hq with hq
      subst hq
      obtain ⟨h1, h2, h3⟩ := pAnd_iff.1 hK
      exact ⟨_, _, _, callR_new hb hwd (hrest _) (fun H' hh => A.sound H H' args a pr rd hd h1 hh) (h a h2), h3 _ rfl⟩
    · cases hq
  · unfold newE at hq
    split at hq
    · injection hq with hq
      subst hq
      obtain ⟨h1, h2, h3⟩ := pAnd_iff.1 hK
      exact pAnd_iff.2 ⟨h1, h2, fun s hs => hKK _ _ _ (h3 s hs)⟩
    · cases hq
end Go.Proofs.Ytjknkfjhcapocaa.AX
