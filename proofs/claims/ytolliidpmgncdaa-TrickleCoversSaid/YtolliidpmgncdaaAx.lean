/- Abstract values, their relation to the model's values, and the state of an abstract run. Nothing of the program in sight. -/
import Derived.Orders
import Derived.Below
namespace Go.Proofs.Ytolliidpmgncdaa.AX
open Go.RowKit
set_option linter.unusedVariables false

/-- What a cell holds: anything; a number; a truth value; a pointer into an owned block (by name); nil; a read-only slice of n elements of sz cells each; a pointer to m read-only cells. -/
inductive CV where
  | top
  | int (k : IntKind) (n : Int)
  | bool (b : Bool)
  | ptr (nm off : Nat)
  | nilp
  | sl (n sz : Nat) (f : Nat → Nat → CV)
  | rp (m : Nat) (g : Nat → CV)

inductive EV where
  | c (x : CV)
  | agg (n : Nat) (f : Nat → CV)

inductive FV where
  | top
  | e (x : EV)
  | tup (l : List EV)

structure Ent where
  t : TypeId
  n : Nat
  f : Nat → CV

def isCell : Value → Prop
  | .agg _ => False
  | .tuple _ => False
  | _ => True

/-- The greatest number of bytes that a slice's room takes. -/
def room : Nat := 140737488355328

def CV.rel (r : Nat → Option Nat) (O : Nat → Prop) (w : World) : CV → Value → Prop
  | .top, v => isCell v
  | .int k n, v => v = .int k n
  | .bool b, v => v = .bool b
  | .ptr nm off, v => ∃ b, r nm = some b ∧ v = .pointer (some ⟨b, off, none⟩)
  | .nilp, v => v = .pointer none
  | .sl n sz f, v => ∃ a cap, v = .slice a n cap ∧ n ≤ cap ∧ cap ≤ room ∧
      (0 < n → ∃ ad, a = some ad ∧ ad.spot = none ∧ ¬ O ad.block ∧ ad.block < w.heap.size ∧ ∀ i, i < n → ∀ j, j < sz → ∃ u, w.cell? ⟨ad.block, ad.off + (i * sz + j), none⟩ = some u ∧ (f i j).rel r O w u)
  | .rp m g, v => ∃ ad, v = .pointer (some ad) ∧ ad.spot = none ∧ ¬ O ad.block ∧ ad.block < w.heap.size ∧ ∀ j, j < m → ∃ u, w.cell? ⟨ad.block, ad.off + j, none⟩ = some u ∧ (g j).rel r O w u

def EV.rel (r : Nat → Option Nat) (O : Nat → Prop) (w : World) : EV → Value → Prop
  | .c x, v => x.rel r O w v
  | .agg n f, v => ∃ cs, v = .agg cs ∧ cs.size = n ∧ ∀ i u, cs[i]? = some u → (f i).rel r O w u

def FV.rel (r : Nat → Option Nat) (O : Nat → Prop) (w : World) : FV → Value → Prop
  | .top, _ => True
  | .e x, v => x.rel r O w v
  | .tup l, v => ∃ vs, v = .tuple vs ∧ vs.size = l.length ∧ ∀ (i : Nat) x u, l[i]? = some x → vs[i]? = some u → x.rel r O w u

theorem rel_isCell {r O w} : ∀ {x : CV} {v : Value}, x.rel r O w v → isCell v := by
  intro x v h
  cases x with
  | top => exact h
  | int => unfold CV.rel at h; subst h; trivial
  | bool => unfold CV.rel at h; subst h; trivial
  | ptr => obtain ⟨b, _, rfl⟩ := h; trivial
  | nilp => unfold CV.rel at h; subst h; trivial
  | sl => obtain ⟨a, cap, rfl, _⟩ := h; trivial
  | rp => obtain ⟨ad, rfl, _⟩ := h; trivial

/-- From (r, O, w) to (r', O', w') what is not owned is kept. -/
structure Ext (r : Nat → Option Nat) (O : Nat → Prop) (w : World) (r' : Nat → Option Nat) (O' : Nat → Prop) (w' : World) : Prop where
  names : ∀ nm b, r nm = some b → r' nm = some b
  size : w.heap.size ≤ w'.heap.size
  kept : ∀ b, b < w.heap.size → ¬ O b → w'.heap[b]? = w.heap[b]?
  own : ∀ b, b < w.heap.size → O' b → O b

theorem Ext.refl (r O w) : Ext r O w r O w := ⟨fun _ _ h => h, Nat.le_refl _, fun _ _ _ => rfl, fun _ _ h => h⟩
theorem Ext.trans {r O w r1 O1 w1 r2 O2 w2} (h : Ext r O w r1 O1 w1) (k : Ext r1 O1 w1 r2 O2 w2) : Ext r O w r2 O2 w2 :=
  ⟨fun nm b e => k.names _ _ (h.names _ _ e), Nat.le_trans h.size k.size,
   fun b hb ho => (k.kept b (Nat.lt_of_lt_of_le hb h.size) (fun o1 => ho (h.own b hb o1))).trans (h.kept b hb ho),
   fun b hb o => h.own b hb (k.own b (Nat.lt_of_lt_of_le hb h.size) o)⟩

theorem cell_block {w w' : World} {b o : Nat} (h : w'.heap[b]? = w.heap[b]?) : w'.cell? ⟨b, o, none⟩ = w.cell? ⟨b, o, none⟩ := by
  unfold World.cell?; rw [h]

theorem CV.rel_ext {r O w r' O' w'} (h : Ext r O w r' O' w') : ∀ (x : CV) (v : Value), x.rel r O w v → x.rel r' O' w' v := by
  intro x
  induction x with
  | top => intro v h1; exact h1
  | int => intro v h1; exact h1
  | bool => intro v h1; exact h1
  | ptr nm off => rintro v ⟨b, hb, rfl⟩; exact ⟨b, h.names _ _ hb, rfl⟩
  | nilp => intro v h1; exact h1
  | sl n sz f ih =>
    rintro v ⟨a, cap, rfl, hn, hc, hx⟩
    refine ⟨a, cap, rfl, hn, hc, fun h0 => ?_⟩
    obtain ⟨ad, rfl, hs, ho, hlt, hcell⟩ := hx h0
    refine ⟨ad, rfl, hs, fun o' => ho (h.own _ hlt o'), Nat.lt_of_lt_of_le hlt h.size, fun i hi j hj => ?_⟩
    obtain ⟨u, hu, hr⟩ := hcell i hi j hj
    exact ⟨u, (cell_block (h.kept _ hlt ho)).trans hu, ih i j u hr⟩
  | rp m g ih =>
    rintro v ⟨ad, rfl, hs, ho, hlt, hcell⟩
    refine ⟨ad, rfl, hs, fun o' => ho (h.own _ hlt o'), Nat.lt_of_lt_of_le hlt h.size, fun j hj => ?_⟩
    obtain ⟨u, hu, hr⟩ := hcell j hj
    exact ⟨u, (cell_block (h.kept _ hlt ho)).trans hu, ih j u hr⟩
theorem EV.rel_ext {r O w r' O' w'} (h : Ext r O w r' O' w') : ∀ (x : EV) (v : Value), x.rel r O w v → x.rel r' O' w' v := by
  intro x v
  cases x with
  | c x => exact CV.rel_ext h x v
  | agg n f => rintro ⟨cs, rfl, hs, hc⟩; exact ⟨cs, rfl, hs, fun i u hu => CV.rel_ext h _ _ (hc i u hu)⟩
theorem FV.rel_ext {r O w r' O' w'} (h : Ext r O w r' O' w') : ∀ (x : FV) (v : Value), x.rel r O w v → x.rel r' O' w' v := by
  intro x v
  cases x with
  | top => exact fun _ => trivial
  | e x => exact EV.rel_ext h x v
  | tup l => rintro ⟨vs, rfl, hs, hc⟩; exact ⟨vs, rfl, hs, fun i x u hx hu => EV.rel_ext h _ _ (hc i x u hx hu)⟩

/-! ### Finite maps as stacks -/
def look {α : Type} (d : α) : List (Nat × α) → Nat → α
  | [], _ => d
  | (k, v) :: rest, t => bif Nat.beq t k then v else look d rest t
abbrev Fr := List (Nat × FV)
abbrev Hp := List (Nat × Option Ent)
def fget (fr : Fr) (t : Nat) : FV := look .top fr t
def hget (H : Hp) (nm : Nat) : Option Ent := look none H nm
theorem look_cons_eq {α : Type} (d : α) (k : Nat) (v : α) (l : List (Nat × α)) : look d ((k, v) :: l) k = v := by simp [look]
theorem look_cons_ne {α : Type} (d : α) {k t : Nat} (v : α) (l : List (Nat × α)) (h : t ≠ k) : look d ((k, v) :: l) t = look d l t := by
  have : Nat.beq t k = false := by
    cases hb : Nat.beq t k with
    | false => rfl
    | true => exact absurd (Nat.eq_of_beq_eq_true hb) h
  simp [look, this]

/-! ### The state -/
/-- What stands fast for a call: the world at its beginning, the blocks of that world that it may write (E), those that it knows nothing of and no slice may lie in (X); the names that stand fast. -/
structure Cx where
  w0 : World
  E : Nat → Prop
  X : Nat → Prop
  pin : Nat → Option Nat

def own (cx : Cx) (r : Nat → Option Nat) (H : Hp) (b : Nat) : Prop := cx.X b ∨ ∃ nm e, hget H nm = some e ∧ r nm = some b

structure St (cx : Cx) (r : Nat → Option Nat) (H : Hp) (w : World) : Prop where
  os : w.os = cx.w0.os
  tape : w.tape = cx.w0.tape
  output : w.output = cx.w0.output
  size : cx.w0.heap.size ≤ w.heap.size
  kept : ∀ b, b < cx.w0.heap.size → ¬ cx.E b → w.heap[b]? = cx.w0.heap[b]?
  xlt : ∀ b, cx.X b → b < cx.w0.heap.size
  dom : ∀ nm b, r nm = some b → b < w.heap.size ∧ (cx.w0.heap.size ≤ b ∨ cx.E b) ∧ ¬ cx.X b
  inj : ∀ n m b, r n = some b → r m = some b → n = m
  pin : ∀ k b, cx.pin k = some b → r k = some b
  blk : ∀ nm e, hget H nm = some e → ∃ b cs, r nm = some b ∧ w.heap[b]? = some (.cells cs e.t (0, 0)) ∧ cs.size = e.n ∧ ∀ i u, cs[i]? = some u → (e.f i).rel r (own cx r H) w u

def FrOk (cx : Cx) (r : Nat → Option Nat) (H : Hp) (w : World) (fr : Fr) (tmps : Array Value) : Prop :=
  ∀ t, (fget fr t).rel r (own cx r H) w (tmps.getD t undef)

theorem FrOk.ext {cx r H w r' H' w' fr tmps} (h : FrOk cx r H w fr tmps) (e : Ext r (own cx r H) w r' (own cx r' H') w') : FrOk cx r' H' w' fr tmps :=
  fun t => FV.rel_ext e _ _ (h t)

/-- A state depends on the heap's stack by what is looked up alone. -/
theorem own_congr {cx r H H'} (h : ∀ nm, hget H nm = hget H' nm) : own cx r H = own cx r H' := by
  funext b
  simp [own, h]
theorem St.congr {cx r H H' w} (h : ∀ nm, hget H nm = hget H' nm) (s : St cx r H w) : St cx r H' w := by
  have ho := own_congr (cx := cx) (r := r) h
  exact ⟨s.os, s.tape, s.output, s.size, s.kept, s.xlt, s.dom, s.inj, s.pin, fun nm e he => by
    obtain ⟨b, cs, h1, h2, h3, h4⟩ := s.blk nm e ((h nm).trans he)
    exact ⟨b, cs, h1, h2, h3, fun i u hu => ho ▸ h4 i u hu⟩⟩
theorem FrOk.congr {cx r H H' w fr fr' tmps} (h : ∀ nm, hget H nm = hget H' nm) (hf : ∀ t, fget fr t = fget fr' t) (s : FrOk cx r H w fr tmps) : FrOk cx r H' w fr' tmps := fun t => by
  rw [← hf t, ← own_congr h]; exact s t

theorem heap_push_lt (w : World) (o : Obj) {b : Nat} (h : b < w.heap.size) : ({ w with heap := w.heap.push o } : World).heap[b]? = w.heap[b]? := by
  show (w.heap.push o)[b]? = _
  rw [Array.getElem?_push, if_neg (by omega)]

/-- A new block under a name that was free. -/
theorem St.new {cx r H w} (s : St cx r H w) {nm : Nat} (hr : r nm = none) (hh : hget H nm = none) (t : TypeId) (cs : Array Value) (n : Nat) (f : Nat → CV) (hn : cs.size = n)
    (hf : ∀ i u, cs[i]? = some u → (f i).rel r (own cx r H) w u) :
    let r' := fun k => if k = nm then some w.heap.size else r k
    let w' : World := { w with heap := w.heap.push (.cells cs t) }
    let H' : Hp := (nm, some ⟨t, n, f⟩) :: H
    Ext r (own cx r H) w r' (own cx r' H') w' ∧ St cx r' H' w' := by
  intro r' w' H'
  have hr' : ∀ k b, r k = some b → r' k = some b := fun k b h => by
    show (if k = nm then some w.heap.size else r k) = some b
    by_cases hk : k = nm
    · subst hk; rw [hr] at h; cases h
    · rw [if_neg hk]; exact h
  have hsz : w'.heap.size = w.heap.size + 1 := by show (w.heap.push _).size = _; simp
  have hE : Ext r (own cx r H) w r' (own cx r' H') w' := by
    refine ⟨hr', by omega, fun b hb _ => heap_push_lt w _ hb, fun b hb o => ?_⟩
    rcases o with o | ⟨k, e, he, hk⟩
    · exact .inl o
    · by_cases hkn : k = nm
      · subst hkn
        have : (if k = k then some w.heap.size else r k) = some b := hk
        rw [if_pos rfl] at this
        injection this with this
        omega
      · have h2 : (if k = nm then some w.heap.size else r k) = some b := hk
        rw [if_neg hkn] at h2
        refine .inr ⟨k, e, ?_, h2⟩
        have : hget H' k = hget H k := look_cons_ne _ _ _ hkn
        rw [← this]; exact he
  refine ⟨hE, s.os, s.tape, s.output, by have := s.size; omega, fun b hb hne => ?_, s.xlt, fun k b hk => ?_, fun k m b hk hm => ?_, fun k b hk => hr' k b (s.pin k b hk), fun k e he => ?_⟩
  · rw [← s.kept b hb hne]; exact heap_push_lt w _ (Nat.lt_of_lt_of_le hb s.size)
  · have h2 : (if k = nm then some w.heap.size else r k) = some b := hk
    by_cases hkn : k = nm
    · rw [if_pos hkn] at h2
      injection h2 with h2
      subst h2
      exact ⟨by omega, .inl s.size, fun hx => by have := s.xlt _ hx; have := s.size; omega⟩
    · rw [if_neg hkn] at h2
      obtain ⟨h3, h4, h5⟩ := s.dom k b h2
      exact ⟨by omega, h4, h5⟩
  · have h2 : (if k = nm then some w.heap.size else r k) = some b := hk
    have h3 : (if m = nm then some w.heap.size else r m) = some b := hm
    by_cases hkn : k = nm
    · by_cases hmn : m = nm
      · omega
      · rw [if_pos hkn] at h2; rw [if_neg hmn] at h3
        injection h2 with h2
        have := (s.dom m b h3).1
        omega
    · by_cases hmn : m = nm
      · rw [if_neg hkn] at h2; rw [if_pos hmn] at h3
        injection h3 with h3
        have := (s.dom k b h2).1
        omega
      · rw [if_neg hkn] at h2; rw [if_neg hmn] at h3
        exact s.inj k m b h2 h3
  · by_cases hkn : k = nm
    · subst hkn
      have h1 : hget H' k = some ⟨t, n, f⟩ := look_cons_eq _ _ _ _
      rw [h1] at he
      injection he with he
      subst he
      refine ⟨w.heap.size, cs, ?_, ?_, hn, fun i u hu => CV.rel_ext hE _ _ (hf i u hu)⟩
      · show (if k = k then some w.heap.size else r k) = _
        rw [if_pos rfl]
      · show (w.heap.push _)[w.heap.size]? = _
        simp
    · have h1 : hget H' k = hget H k := look_cons_ne _ _ _ hkn
      rw [h1] at he
      obtain ⟨b, cs', h2, h3, h4, h5⟩ := s.blk k e he
      have hb := (s.dom k b h2).1
      exact ⟨b, cs', hr' k b h2, (heap_push_lt w _ hb).trans h3, h4, fun i u hu => CV.rel_ext hE _ _ (h5 i u hu)⟩

/-- An owned block gets other cells. -/
theorem St.write {cx r H w} (s : St cx r H w) {nm b : Nat} {e : Ent} (he : hget H nm = some e) (hb : r nm = some b) (cs : Array Value) (f : Nat → CV) (hn : cs.size = e.n)
    (hf : ∀ i u, cs[i]? = some u → (f i).rel r (own cx r H) w u) (w' : World) (hos : w'.os = w.os) (htape : w'.tape = w.tape) (hout : w'.output = w.output) (hsz : w'.heap.size = w.heap.size)
    (hother : ∀ k, k ≠ b → w'.heap[k]? = w.heap[k]?) (hthis : w'.heap[b]? = some (.cells cs e.t (0, 0))) :
    Ext r (own cx r H) w r (own cx r ((nm, some ⟨e.t, e.n, f⟩) :: H)) w' ∧ St cx r ((nm, some ⟨e.t, e.n, f⟩) :: H) w' := by
  have hl : ∀ k, k ≠ nm → hget ((nm, some ⟨e.t, e.n, f⟩) :: H) k = hget H k := fun k hk => look_cons_ne _ _ _ hk
  have hl0 : hget ((nm, some ⟨e.t, e.n, f⟩) :: H) nm = some ⟨e.t, e.n, f⟩ := look_cons_eq _ _ _ _
  have hown : ∀ x, own cx r ((nm, some ⟨e.t, e.n, f⟩) :: H) x → own cx r H x := by
    rintro x (hx | ⟨k, e', h1, h2⟩)
    · exact .inl hx
    · by_cases hk : k = nm
      · subst hk; exact .inr ⟨k, e, he, h2⟩
      · exact .inr ⟨k, e', (hl k hk) ▸ h1, h2⟩
  have hE : Ext r (own cx r H) w r (own cx r ((nm, some ⟨e.t, e.n, f⟩) :: H)) w' :=
    ⟨fun _ _ h => h, by omega, fun x hx ho => hother x (fun hxb => ho (.inr ⟨nm, e, he, by rw [hxb]; exact hb⟩)), fun x _ h => hown x h⟩
  obtain ⟨hd1, hd2, hd3⟩ := s.dom nm b hb
  refine ⟨hE, hos.trans s.os, htape.trans s.tape, hout.trans s.output, by have := s.size; omega, fun x hx hne => ?_, s.xlt, fun k x hk => ?_, s.inj, s.pin, fun k e' hk => ?_⟩
  · rw [hother x (fun hxb => ?_)]
    · exact s.kept x hx hne
    · subst hxb
      rcases hd2 with hd2 | hd2
      · omega
      · exact hne hd2
  · obtain ⟨h1, h2, h3⟩ := s.dom k x hk
    exact ⟨by omega, h2, h3⟩
  · by_cases hkn : k = nm
    · subst hkn
      rw [hl0] at hk
      injection hk with hk
      subst hk
      exact ⟨b, cs, hb, hthis, hn, fun i u hu => CV.rel_ext hE _ _ (hf i u hu)⟩
    · rw [hl k hkn] at hk
      obtain ⟨x, cs', h1, h2, h3, h4⟩ := s.blk k e' hk
      have hxb : x ≠ b := fun h => hkn (s.inj k nm b (h ▸ h1) hb)
      exact ⟨x, cs', h1, (hother x hxb).trans h2, h3, fun i u hu => CV.rel_ext hE _ _ (h4 i u hu)⟩

/-- A draw. -/
theorem St.drew {cx r H w} (s : St cx r H w) (n : Nat) : Ext r (own cx r H) w r (own cx r H) { w with drawn := n } ∧ St cx r H { w with drawn := n } := by
  have hE : Ext r (own cx r H) w r (own cx r H) { w with drawn := n } := ⟨fun _ _ h => h, Nat.le_refl _, fun _ _ _ => rfl, fun _ _ h => h⟩
  exact ⟨hE, s.os, s.tape, s.output, s.size, s.kept, s.xlt, s.dom, s.inj, s.pin, fun nm e he => by
    obtain ⟨b, cs, h1, h2, h3, h4⟩ := s.blk nm e he
    exact ⟨b, cs, h1, h2, h3, fun i u hu => CV.rel_ext hE _ _ (h4 i u hu)⟩⟩

/-- What a call that keeps all old memory leaves. -/
theorem St.below {cx r H w w'} (s : St cx r H w) (h : Below w.heap.size w w') : Ext r (own cx r H) w r (own cx r H) w' ∧ St cx r H w' := by
  have hE : Ext r (own cx r H) w r (own cx r H) w' := ⟨fun _ _ h => h, h.size, fun b hb _ => h.block b hb, fun _ _ h => h⟩
  refine ⟨hE, h.os.trans s.os, h.tape.trans s.tape, h.output.trans s.output, Nat.le_trans s.size h.size, fun b hb hne => (h.block b (Nat.lt_of_lt_of_le hb s.size)).trans (s.kept b hb hne), s.xlt, fun nm b hb => ?_, s.inj, s.pin, fun nm e he => ?_⟩
  · obtain ⟨h1, h2, h3⟩ := s.dom nm b hb
    exact ⟨Nat.lt_of_lt_of_le h1 h.size, h2, h3⟩
  · obtain ⟨b, cs, h1, h2, h3, h4⟩ := s.blk nm e he
    exact ⟨b, cs, h1, (h.block b (s.dom nm b h1).1).trans h2, h3, fun i u hu => CV.rel_ext hE _ _ (h4 i u hu)⟩
end Go.Proofs.Ytolliidpmgncdaa.AX
