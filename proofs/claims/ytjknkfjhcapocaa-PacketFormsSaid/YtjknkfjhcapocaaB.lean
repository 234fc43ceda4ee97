/- Abstract values (with slices of the call's own), their relation to the model's values, and the state of an abstract run. Nothing of the program in sight. -/
import Derived.Orders
import Derived.Below
namespace Go.Proofs.Ytjknkfjhcapocaa.AX
open Go.RowKit
set_option linter.unusedVariables false

/-- What a cell holds: anything; a number; a truth value; a pointer into an owned block (name, element, cell; the last mark says that the cell is no literal); nil; a read-only slice of n elements of sz cells each (shared, or borrowed for the call); a pointer to m read-only cells; a slice of an owned block: n elements from element i on; a slice of the parts of an array within element i of an owned block, from cell j on, es cells each; the nil slice; a function with what it holds. -/
inductive CV where
  | top
  | int (k : IntKind) (n : Int)
  | bool (b : Bool)
  | ptr (nm i j : Nat) (sym : Bool)
  | nilp
  | sl (sh : Bool) (n sz : Nat) (f : Nat → Nat → CV)
  | rp (sh : Bool) (m : Nat) (g : Nat → CV)
  | os (nm i n : Nat)
  | oa (nm i j n es : Nat)
  | nils
  | fn (f : FuncId) (n m : Nat) (a : Nat → CV)

inductive EV where
  | c (x : CV)
  | agg (n : Nat) (f : Nat → CV)

inductive FV where
  | top
  | e (x : EV)
  | tup (l : List EV)

/-- What an owned block holds: n elements of sz cells each; v: a variable (one element). -/
structure Ent where
  t : TypeId
  n : Nat
  sz : Nat
  v : Bool
  f : Nat → Nat → CV

def isCell : Value → Prop
  | .agg _ => False
  | .tuple _ => False
  | _ => True

/-- Where a name lies: the block, the cells of an element, the elements that it has room for. -/
structure Bi where
  b : Nat
  sz : Nat
  c : Nat
abbrev Ren := Nat → Option Bi

def CV.rel (r : Ren) (X W : Nat → Prop) (w : World) : CV → Value → Prop
  | .top, v => isCell v
  | .int k n, v => v = .int k n
  | .bool b, v => v = .bool b
  | .ptr nm i j _, v => ∃ x, r nm = some x ∧ v = .pointer (some ⟨x.b, i * x.sz + j, none⟩)
  | .nilp, v => v = .pointer none
  | .sl sh n sz f, v => ∃ a cap, v = .slice a n cap ∧ n ≤ cap ∧
      (0 < n → ∃ ad, a = some ad ∧ ad.spot = none ∧ ¬ W ad.block ∧ (sh = true → ¬ X ad.block) ∧ ad.block < w.heap.size ∧ ∀ i, i < n → ∀ j, j < sz → ∃ u, w.cell? ⟨ad.block, ad.off + (i * sz + j), none⟩ = some u ∧ (f i j).rel r X W w u)
  | .rp sh m g, v => ∃ ad, v = .pointer (some ad) ∧ ad.spot = none ∧ ¬ W ad.block ∧ (sh = true → ¬ X ad.block) ∧ ad.block < w.heap.size ∧ ∀ j, j < m → ∃ u, w.cell? ⟨ad.block, ad.off + j, none⟩ = some u ∧ (g j).rel r X W w u
  | .os nm i n, v => ∃ a cap, v = .slice a n cap ∧ n ≤ cap ∧ (0 < cap → ∃ x, r nm = some x ∧ a = some ⟨x.b, i * x.sz, none⟩ ∧ i + cap = x.c)
  | .oa nm i j n _, v => ∃ a cap, v = .slice a n cap ∧ n ≤ cap ∧ (0 < n → ∃ x, r nm = some x ∧ a = some ⟨x.b, i * x.sz + j, none⟩)
  | .nils, v => v = .slice none 0 0
  | .fn f n m a, v => ∃ fs cs, v = .func (.func f) fs cs ∧ fs.size = n ∧ cs.size = m ∧ (∀ k u, fs[k]? = some u → (a k).rel r X W w u) ∧ ∀ k u, cs[k]? = some u → (a (n + k)).rel r X W w u

def EV.rel (r : Ren) (X W : Nat → Prop) (w : World) : EV → Value → Prop
  | .c x, v => x.rel r X W w v
  | .agg n f, v => ∃ cs, v = .agg cs ∧ cs.size = n ∧ ∀ i u, cs[i]? = some u → (f i).rel r X W w u

def FV.rel (r : Ren) (X W : Nat → Prop) (w : World) : FV → Value → Prop
  | .top, _ => True
  | .e x, v => x.rel r X W w v
  | .tup l, v => ∃ vs, v = .tuple vs ∧ vs.size = l.length ∧ ∀ (i : Nat) x u, l[i]? = some x → vs[i]? = some u → x.rel r X W w u

theorem rel_isCell {r X W w} : ∀ {x : CV} {v : Value}, x.rel r X W w v → isCell v := by
  intro x v h
  cases x with
  | top => exact h
  | int => unfold CV.rel at h; subst h; trivial
  | bool => unfold CV.rel at h; subst h; trivial
  | ptr => obtain ⟨b, _, rfl⟩ := h; trivial
  | nilp => unfold CV.rel at h; subst h; trivial
  | sl => obtain ⟨a, cap, rfl, _⟩ := h; trivial
  | rp => obtain ⟨ad, rfl, _⟩ := h; trivial
  | os => obtain ⟨a, cap, rfl, _⟩ := h; trivial
  | oa => obtain ⟨a, cap, rfl, _⟩ := h; trivial
  | nils => unfold CV.rel at h; subst h; trivial
  | fn => obtain ⟨fs, cs, rfl, _⟩ := h; trivial

/-- From (r, W, w) to (r', W', w') what is not owned is kept. -/
structure Ext (r : Ren) (W : Nat → Prop) (w : World) (r' : Ren) (W' : Nat → Prop) (w' : World) : Prop where
  names : ∀ nm b, r nm = some b → r' nm = some b
  size : w.heap.size ≤ w'.heap.size
  kept : ∀ b, b < w.heap.size → ¬ W b → w'.heap[b]? = w.heap[b]?
  own : ∀ b, b < w.heap.size → W' b → W b

theorem Ext.refl (r W w) : Ext r W w r W w := ⟨fun _ _ h => h, Nat.le_refl _, fun _ _ _ => rfl, fun _ _ h => h⟩
theorem Ext.trans {r W w r1 W1 w1 r2 W2 w2} (h : Ext r W w r1 W1 w1) (k : Ext r1 W1 w1 r2 W2 w2) : Ext r W w r2 W2 w2 :=
  ⟨fun nm b e => k.names _ _ (h.names _ _ e), Nat.le_trans h.size k.size,
   fun b hb ho => (k.kept b (Nat.lt_of_lt_of_le hb h.size) (fun o1 => ho (h.own b hb o1))).trans (h.kept b hb ho),
   fun b hb o => h.own b hb (k.own b (Nat.lt_of_lt_of_le hb h.size) o)⟩

theorem cell_block {w w' : World} {b o : Nat} (h : w'.heap[b]? = w.heap[b]?) : w'.cell? ⟨b, o, none⟩ = w.cell? ⟨b, o, none⟩ := by
  unfold World.cell?; rw [h]

theorem CV.rel_ext {r X W w r' W' w'} (h : Ext r W w r' W' w') : ∀ (x : CV) (v : Value), x.rel r X W w v → x.rel r' X W' w' v := by
  intro x
  induction x with
  | top => intro v h1; exact h1
  | int => intro v h1; exact h1
  | bool => intro v h1; exact h1
  | ptr nm i j s => rintro v ⟨b, hb, rfl⟩; exact ⟨b, h.names _ _ hb, rfl⟩
  | nilp => intro v h1; exact h1
  | sl sh n sz f ih =>
    rintro v ⟨a, cap, rfl, hn, hx⟩
    refine ⟨a, cap, rfl, hn, fun h0 => ?_⟩
    obtain ⟨ad, rfl, hs, ho, hX, hlt, hcell⟩ := hx h0
    refine ⟨ad, rfl, hs, fun o' => ho (h.own _ hlt o'), hX, Nat.lt_of_lt_of_le hlt h.size, fun i hi j hj => ?_⟩
    obtain ⟨u, hu, hr⟩ := hcell i hi j hj
    exact ⟨u, (cell_block (h.kept _ hlt ho)).trans hu, ih i j u hr⟩
  | rp sh m g ih =>
    rintro v ⟨ad, rfl, hs, ho, hX, hlt, hcell⟩
    refine ⟨ad, rfl, hs, fun o' => ho (h.own _ hlt o'), hX, Nat.lt_of_lt_of_le hlt h.size, fun j hj => ?_⟩
    obtain ⟨u, hu, hr⟩ := hcell j hj
    exact ⟨u, (cell_block (h.kept _ hlt ho)).trans hu, ih j u hr⟩
  | os nm i n =>
    rintro v ⟨a, cap, rfl, hn, hx⟩
    refine ⟨a, cap, rfl, hn, fun h0 => ?_⟩
    obtain ⟨x, hx, h1⟩ := hx h0
    exact ⟨x, h.names _ _ hx, h1⟩
  | oa nm i j n es =>
    rintro v ⟨a, cap, rfl, hn, hx⟩
    refine ⟨a, cap, rfl, hn, fun h0 => ?_⟩
    obtain ⟨x, hx, h1⟩ := hx h0
    exact ⟨x, h.names _ _ hx, h1⟩
  | nils => intro v h1; exact h1
  | fn f n m a ih =>
    rintro v ⟨fs, cs, rfl, h1, h2, h3, h4⟩
    exact ⟨fs, cs, rfl, h1, h2, fun k u hu => ih k u (h3 k u hu), fun k u hu => ih _ u (h4 k u hu)⟩
theorem EV.rel_ext {r X W w r' W' w'} (h : Ext r W w r' W' w') : ∀ (x : EV) (v : Value), x.rel r X W w v → x.rel r' X W' w' v := by
  intro x v
  cases x with
  | c x => exact CV.rel_ext h x v
  | agg n f => rintro ⟨cs, rfl, hs, hc⟩; exact ⟨cs, rfl, hs, fun i u hu => CV.rel_ext h _ _ (hc i u hu)⟩
theorem FV.rel_ext {r X W w r' W' w'} (h : Ext r W w r' W' w') : ∀ (x : FV) (v : Value), x.rel r X W w v → x.rel r' X W' w' v := by
  intro x v
  cases x with
  | top => exact fun _ => trivial
  | e x => exact EV.rel_ext h x v
  | tup l => rintro ⟨vs, rfl, hs, hc⟩; exact ⟨vs, rfl, hs, fun i x u hx hu => EV.rel_ext h _ _ (hc i x u hx hu)⟩

/-- One of two cells; numbers and truth values show their heads. -/
def selC (c : Bool) (x y : CV) : CV :=
  match x, y with
  | .int k a, .int k' b => bif decide (k = k') then .int k (bif c then a else b) else bif c then .int k a else .int k' b
  | .bool a, .bool b => .bool (bif c then a else b)
  | x, y => bif c then x else y
theorem selC_eq (c : Bool) (x y : CV) : selC c x y = bif c then x else y := by
  unfold selC
  split
  · rename_i k a k' b
    cases hk : decide (k = k') with
    | true => have := of_decide_eq_true hk; subst this; cases c <;> rfl
    | false => rfl
  · cases c <;> rfl
  · rfl
theorem selC_true (x y : CV) : selC true x y = x := by rw [selC_eq]; rfl
theorem selC_false (x y : CV) : selC false x y = y := by rw [selC_eq]; rfl

/-! ### Finite maps as stacks -/
def look {α : Type} (d : α) : List (Nat × α) → Nat → α
  | [], _ => d
  | (k, v) :: rest, t => bif Nat.beq t k then v else look d rest t
abbrev Fr := List (Nat × FV)
abbrev Hp := List (Nat × Option Ent)
def fget (fr : Fr) (t : Nat) : FV := look .top fr t
def hget (H : Hp) (nm : Nat) : Option Ent := look none H nm
theorem look_cons_eq {α : Type} (d : α) (k : Nat) (v : α) (l : List (Nat × α)) : look d ((k, v) :: l) k = v := by simp [look]
theorem look_cons_ne {α : Type} (d : α) {k t : Nat} (v : α) (l : List (Nat × α)) (h : t ≠ k) : look d ((k, v) :: l) t = look d l t := by
  have : Nat.beq t k = false := by
    cases hb : Nat.beq t k with
    | false => rfl
    | true => exact absurd (Nat.eq_of_beq_eq_true hb) h
  simp [look, this]

/-! ### The state -/
/-- What stands fast for a call: the world at its beginning, the blocks of that world that names may lie in (D), those that it may write (E), those that no shared slice may lie in (X); the names that stand fast. -/
structure Cx where
  w0 : World
  D : Nat → Prop
  E : Nat → Prop
  X : Nat → Prop
  pin : Nat → Option Bi

/-- The blocks that are owned. -/
def wr (r : Ren) (H : Hp) (b : Nat) : Prop := ∃ nm e x, hget H nm = some e ∧ r nm = some x ∧ x.b = b

/-- What an entry says of its block. -/
def EntIn (r : Ren) (X W : Nat → Prop) (w : World) (e : Ent) (o : Option Bi) (hp : Array Obj) : Prop :=
  0 < e.sz ∧ (e.v = true → e.n = 1) ∧ ((o = none ∧ e.n = 0) ∨ ∃ x cs, o = some x ∧ x.sz = e.sz ∧ hp[x.b]? = some (.cells cs e.t (0, 0)) ∧ cs.size = x.c * x.sz ∧ e.n ≤ x.c ∧ ∀ i, i < e.n → ∀ j, j < e.sz → ∀ u, cs[i * e.sz + j]? = some u → (e.f i j).rel r X W w u)

structure St (cx : Cx) (r : Ren) (H : Hp) (w : World) : Prop where
  os : w.os = cx.w0.os
  tape : w.tape = cx.w0.tape
  output : w.output = cx.w0.output
  size : cx.w0.heap.size ≤ w.heap.size
  kept : ∀ b, b < cx.w0.heap.size → ¬ cx.E b → w.heap[b]? = cx.w0.heap[b]?
  xlt : ∀ b, cx.X b → b < cx.w0.heap.size
  dom : ∀ nm x, r nm = some x → x.b < w.heap.size ∧ (cx.w0.heap.size ≤ x.b ∨ cx.D x.b) ∧ ¬ cx.X x.b
  ow : ∀ nm e x, hget H nm = some e → r nm = some x → cx.w0.heap.size ≤ x.b ∨ cx.E x.b
  inj : ∀ n m e e' x y, hget H n = some e → hget H m = some e' → r n = some x → r m = some y → x.b = y.b → n = m
  pin : ∀ k b, cx.pin k = some b → r k = some b
  blk : ∀ nm e, hget H nm = some e → EntIn r cx.X (wr r H) w e (r nm) w.heap

def FrOk (cx : Cx) (r : Ren) (H : Hp) (w : World) (fr : Fr) (tmps : Array Value) : Prop :=
  ∀ t, (fget fr t).rel r cx.X (wr r H) w (tmps.getD t undef)

theorem FrOk.ext {cx r H w r' H' w' fr tmps} (h : FrOk cx r H w fr tmps) (e : Ext r (wr r H) w r' (wr r' H') w') : FrOk cx r' H' w' fr tmps :=
  fun t => FV.rel_ext e _ _ (h t)

theorem wr_congr {r H H'} (h : ∀ nm, hget H nm = hget H' nm) : wr r H = wr r H' := by
  funext b
  simp [wr, h]
theorem St.congr {cx r H H' w} (h : ∀ nm, hget H nm = hget H' nm) (s : St cx r H w) : St cx r H' w := by
  have ho := wr_congr (r := r) h
  refine ⟨s.os, s.tape, s.output, s.size, s.kept, s.xlt, s.dom, fun nm e x h1 => s.ow nm e x ((h nm).trans h1), fun n m e e' x y h1 h2 => s.inj n m e e' x y ((h n).trans h1) ((h m).trans h2), s.pin, fun nm e he => ?_⟩
  rw [← ho]; exact s.blk nm e ((h nm).trans he)
theorem FrOk.congr {cx r H H' w fr fr' tmps} (h : ∀ nm, hget H nm = hget H' nm) (hf : ∀ t, fget fr t = fget fr' t) (s : FrOk cx r H w fr tmps) : FrOk cx r H' w fr' tmps := fun t => by
  rw [← hf t, ← wr_congr h]; exact s t

theorem heap_push_lt (w : World) (o : Obj) {b : Nat} (h : b < w.heap.size) : ({ w with heap := w.heap.push o } : World).heap[b]? = w.heap[b]? := by
  show (w.heap.push o)[b]? = _
  rw [Array.getElem?_push, if_neg (by omega)]

theorem EntIn.ext {r X W w r' W' w' e o hp} (h : EntIn r X W w e o hp) (hx : Ext r W w r' W' w') : EntIn r' X W' w' e o hp := by
  obtain ⟨h1, h2, h3⟩ := h
  refine ⟨h1, h2, h3.imp id ?_⟩
  rintro ⟨x, cs, g1, g2, g3, g4, g5, g6⟩
  exact ⟨x, cs, g1, g2, g3, g4, g5, fun i hi j hj u hu => CV.rel_ext hx _ _ (g6 i hi j hj u hu)⟩

/-- One step of the state: names are added, owned blocks may have turned. -/
theorem St.step {cx r H w} (s : St cx r H w) {r' : Ren} {H' : Hp} {w' : World} (hr : ∀ k x, r k = some x → r' k = some x) (hos : w'.os = w.os) (htape : w'.tape = w.tape) (hout : w'.output = w.output) (hsz : w.heap.size ≤ w'.heap.size)
    (hch : ∀ b, b < w.heap.size → ¬ wr r H b → w'.heap[b]? = w.heap[b]?) (hown : ∀ b, b < w.heap.size → wr r' H' b → wr r H b)
    (hdom : ∀ k x, r' k = some x → (∃ k0, r k0 = some x) ∨ (w.heap.size ≤ x.b ∧ x.b < w'.heap.size))
    (hinj : ∀ n m e e' x y, hget H' n = some e → hget H' m = some e' → r' n = some x → r' m = some y → x.b = y.b → n = m)
    (hblk : ∀ k e, hget H' k = some e → EntIn r cx.X (wr r H) w e (r' k) w'.heap) :
    Ext r (wr r H) w r' (wr r' H') w' ∧ St cx r' H' w' := by
  have hE : Ext r (wr r H) w r' (wr r' H') w' := ⟨hr, hsz, hch, hown⟩
  refine ⟨hE, hos.trans s.os, htape.trans s.tape, hout.trans s.output, Nat.le_trans s.size hsz, fun b hb hne => ?_, s.xlt, fun k x hk => ?_, fun k e x he hk => ?_, hinj, fun k b hk => hr k b (s.pin k b hk), fun k e he => (hblk k e he).ext hE⟩
  · rw [← s.kept b hb hne]
    refine hch b (Nat.lt_of_lt_of_le hb s.size) ?_
    rintro ⟨nm, e, x, he, hx, rfl⟩
    rcases s.ow nm e x he hx with h | h
    · omega
    · exact hne h
  · rcases hdom k x hk with ⟨k0, h0⟩ | ⟨h1, h2⟩
    · obtain ⟨g1, g2, g3⟩ := s.dom k0 x h0
      exact ⟨Nat.lt_of_lt_of_le g1 hsz, g2, g3⟩
    · exact ⟨h2, .inl (Nat.le_trans s.size h1), fun hX => by have := s.xlt _ hX; have := s.size; omega⟩
  · rcases Nat.lt_or_ge x.b w.heap.size with hlt | hge
    · obtain ⟨k0, e0, x0, h1, h2, h3⟩ := hown x.b hlt ⟨k, e, x, he, hk, rfl⟩
      have := s.ow k0 e0 x0 h1 h2
      rw [h3] at this; exact this
    · exact .inl (Nat.le_trans s.size hge)

/-- The entries that a step leaves alone. -/
theorem St.old {cx r H w} (s : St cx r H w) {k : Nat} {e : Ent} (he : hget H k = some e) {o : Option Bi} (ho : o = r k) {w' : World} (hw : ∀ x, r k = some x → w'.heap[x.b]? = w.heap[x.b]?) : EntIn r cx.X (wr r H) w e o w'.heap := by
  subst ho
  obtain ⟨h1, h2, h3⟩ := s.blk k e he
  refine ⟨h1, h2, h3.imp id ?_⟩
  rintro ⟨x, cs, g1, g2, g3, g4, g5, g6⟩
  exact ⟨x, cs, g1, g2, (hw x g1).trans g3, g4, g5, g6⟩

/-- A new block under a name that was free; some names may die. -/
theorem St.new {cx r H w} (s : St cx r H w) {nm : Nat} (hr : r nm = none) (dead : Hp) (hdead : ∀ k e, hget (dead ++ H) k = some e → hget H k = some e) (hnm : hget H nm = none) (t : TypeId) (cs : Array Value) (n sz c : Nat) (v : Bool) (f : Nat → Nat → CV) (hsz : 0 < sz) (hv : v = true → n = 1) (hc : cs.size = c * sz) (hn : n ≤ c)
    (hf : ∀ i, i < n → ∀ j, j < sz → ∀ u, cs[i * sz + j]? = some u → (f i j).rel r cx.X (wr r H) w u) {w1 : World} (hos : w1.os = w.os) (htape : w1.tape = w.tape) (hout : w1.output = w.output) (hheap : w1.heap = w.heap.push (.cells cs t)) :
    let r' : Ren := fun k => if k = nm then some ⟨w.heap.size, sz, c⟩ else r k
    let H' : Hp := (nm, some ⟨t, n, sz, v, f⟩) :: (dead ++ H)
    Ext r (wr r H) w r' (wr r' H') w1 ∧ St cx r' H' w1 := by
  intro r' H'
  have hl0 : hget H' nm = some ⟨t, n, sz, v, f⟩ := look_cons_eq _ _ _ _
  have hl : ∀ k, k ≠ nm → hget H' k = hget (dead ++ H) k := fun k hk => look_cons_ne _ _ _ hk
  have hr0 : r' nm = some ⟨w.heap.size, sz, c⟩ := if_pos rfl
  have hr1 : ∀ k, k ≠ nm → r' k = r k := fun k hk => if_neg hk
  have hpush : ∀ b, b < w.heap.size → w1.heap[b]? = w.heap[b]? := fun b hb => by rw [hheap, Array.getElem?_push, if_neg (by omega)]
  have hsize : w1.heap.size = w.heap.size + 1 := by rw [hheap]; simp
  refine s.step (fun k x hk => ?_) hos htape hout (by omega) (fun b hb _ => hpush b hb) (fun b hb hw => ?_) (fun k x hk => ?_) (fun k m e e' x y hk hm hx hy hxy => ?_) (fun k e he => ?_)
  · by_cases h : k = nm
    · subst h; rw [hr] at hk; cases hk
    · rw [hr1 k h]; exact hk
  · obtain ⟨k, e, x, he, hx, rfl⟩ := hw
    by_cases h : k = nm
    · subst h; rw [hr0] at hx; injection hx with hx; subst hx; simp at hb
    · rw [hr1 k h] at hx; rw [hl k h] at he
      exact ⟨k, e, x, hdead k e he, hx, rfl⟩
  · by_cases h : k = nm
    · subst h; rw [hr0] at hk; injection hk with hk; subst hk; exact .inr ⟨Nat.le_refl _, by show w.heap.size < _; omega⟩
    · rw [hr1 k h] at hk; exact .inl ⟨k, hk⟩
  · have lt : ∀ k x, k ≠ nm → r' k = some x → x.b < w.heap.size := fun k x h hx => by rw [hr1 k h] at hx; exact (s.dom k x hx).1
    have eq : ∀ x, r' nm = some x → x.b = w.heap.size := fun x hx => by rw [hr0] at hx; injection hx with hx; subst hx; rfl
    by_cases h : k = nm
    · by_cases h' : m = nm
      · omega
      · have := lt m y h' hy; subst h; have := eq x hx; omega
    · by_cases h' : m = nm
      · have := lt k x h hx; subst h'; have := eq y hy; omega
      · rw [hl k h] at hk; rw [hl m h'] at hm; rw [hr1 k h] at hx; rw [hr1 m h'] at hy
        exact s.inj k m e e' x y (hdead k e hk) (hdead m e' hm) hx hy hxy
  · by_cases h : k = nm
    · subst h
      rw [hl0] at he; injection he with he; subst he
      refine ⟨hsz, hv, .inr ⟨_, cs, hr0, rfl, ?_, hc, hn, hf⟩⟩
      rw [hheap]; simp
    · rw [hl k h] at he
      exact s.old (hdead k e he) (hr1 k h) fun x hx => hpush _ (s.dom k x hx).1

/-- An owned block gets other cells. -/
theorem St.write {cx r H w} (s : St cx r H w) {nm : Nat} {x : Bi} {e : Ent} (he : hget H nm = some e) (hx : r nm = some x) (cs : Array Value) (f : Nat → Nat → CV) (hsize : cs.size = x.c * x.sz)
    (hf : ∀ i, i < e.n → ∀ j, j < e.sz → ∀ u, cs[i * e.sz + j]? = some u → (f i j).rel r cx.X (wr r H) w u) (w' : World) (hos : w'.os = w.os) (htape : w'.tape = w.tape) (hout : w'.output = w.output) (hsz : w'.heap.size = w.heap.size)
    (hother : ∀ k, k ≠ x.b → w'.heap[k]? = w.heap[k]?) (hthis : w'.heap[x.b]? = some (.cells cs e.t (0, 0))) :
    Ext r (wr r H) w r (wr r ((nm, some ⟨e.t, e.n, e.sz, e.v, f⟩) :: H)) w' ∧ St cx r ((nm, some ⟨e.t, e.n, e.sz, e.v, f⟩) :: H) w' := by
  have hl : ∀ k, k ≠ nm → hget ((nm, some ⟨e.t, e.n, e.sz, e.v, f⟩) :: H) k = hget H k := fun k hk => look_cons_ne _ _ _ hk
  have hl0 : hget ((nm, some ⟨e.t, e.n, e.sz, e.v, f⟩) :: H) nm = some ⟨e.t, e.n, e.sz, e.v, f⟩ := look_cons_eq _ _ _ _
  have live : ∀ k e', hget ((nm, some ⟨e.t, e.n, e.sz, e.v, f⟩) :: H) k = some e' → ∃ e1, hget H k = some e1 := fun k e' h => by
    by_cases hk : k = nm
    · subst hk; exact ⟨e, he⟩
    · rw [hl k hk] at h; exact ⟨e', h⟩
  refine s.step (fun _ _ h => h) hos htape hout (by omega) (fun b hb hw => hother b fun hbx => hw ⟨nm, e, x, he, hx, hbx.symm⟩) (fun b hb hw => ?_) (fun k y hk => .inl ⟨k, hk⟩) (fun n m e1 e2 y z h1 h2 hy hz hyz => ?_) (fun k e' hk => ?_)
  · obtain ⟨k, e', y, h1, h2, h3⟩ := hw
    obtain ⟨e1, h1⟩ := live k e' h1
    exact ⟨k, e1, y, h1, h2, h3⟩
  · obtain ⟨e1, h1⟩ := live n e1 h1
    obtain ⟨e2, h2⟩ := live m e2 h2
    exact s.inj n m e1 e2 y z h1 h2 hy hz hyz
  · by_cases h : k = nm
    · subst h
      rw [hl0] at hk; injection hk with hk; subst hk
      obtain ⟨g1, g2, g3⟩ := s.blk k e he
      rcases g3 with ⟨g3, _⟩ | ⟨y, cs', g3, g4, g5, g6, g7, g8⟩
      · rw [hx] at g3; cases g3
      · rw [hx] at g3; injection g3 with g3; subst g3
        exact ⟨g1, g2, .inr ⟨x, cs, hx, g4, hthis, hsize, g7, hf⟩⟩
    · rw [hl k h] at hk
      exact s.old hk rfl fun y hy => hother _ fun hyx => h (s.inj k nm e' e y x hk he hy hx hyx)

/-- A name gives way to a new one for the same block; its cells may turn, it may hold more elements. -/
theorem St.grow {cx r H w} (s : St cx r H w) {nm nm' : Nat} {x : Bi} {e : Ent} (he : hget H nm = some e) (hx : r nm = some x) (hr : r nm' = none) (hnm : hget H nm' = none) (cs : Array Value) (n : Nat) (f : Nat → Nat → CV) (hsize : cs.size = x.c * x.sz) (hn : n ≤ x.c) (hv : e.v = true → n = 1)
    (hf : ∀ i, i < n → ∀ j, j < e.sz → ∀ u, cs[i * e.sz + j]? = some u → (f i j).rel r cx.X (wr r H) w u) (w' : World) (hos : w'.os = w.os) (htape : w'.tape = w.tape) (hout : w'.output = w.output) (hsz : w'.heap.size = w.heap.size)
    (hother : ∀ k, k ≠ x.b → w'.heap[k]? = w.heap[k]?) (hthis : w'.heap[x.b]? = some (.cells cs e.t (0, 0))) :
    let r' : Ren := fun k => if k = nm' then some x else r k
    let H' : Hp := (nm', some ⟨e.t, n, e.sz, e.v, f⟩) :: (nm, none) :: H
    Ext r (wr r H) w r' (wr r' H') w' ∧ St cx r' H' w' := by
  intro r' H'
  have hne : nm' ≠ nm := fun h => by rw [h, he] at hnm; cases hnm
  have hl0 : hget H' nm' = some ⟨e.t, n, e.sz, e.v, f⟩ := look_cons_eq _ _ _ _
  have hl1 : hget H' nm = none := (look_cons_ne _ _ _ (Ne.symm hne)).trans (look_cons_eq _ _ _ _)
  have hl : ∀ k, k ≠ nm' → k ≠ nm → hget H' k = hget H k := fun k hk hk' => (look_cons_ne _ _ _ hk).trans (look_cons_ne _ _ _ hk')
  have hr0 : r' nm' = some x := if_pos rfl
  have hr1 : ∀ k, k ≠ nm' → r' k = r k := fun k hk => if_neg hk
  -- a live name behind the step, as a live name before it with the same place
  have back : ∀ k e' y, hget H' k = some e' → r' k = some y → ∃ k0 e0, hget H k0 = some e0 ∧ r k0 = some y ∧ (k = nm' ∧ k0 = nm ∨ k ≠ nm' ∧ k ≠ nm ∧ k0 = k) := fun k e' y h1 h2 => by
    by_cases h : k = nm'
    · subst h; rw [hr0] at h2; exact ⟨nm, e, he, hx.trans h2, .inl ⟨rfl, rfl⟩⟩
    · by_cases h' : k = nm
      · subst h'; rw [hl1] at h1; cases h1
      · rw [hl k h h'] at h1; rw [hr1 k h] at h2; exact ⟨k, e', h1, h2, .inr ⟨h, h', rfl⟩⟩
  refine s.step (fun k y hk => ?_) hos htape hout (by omega) (fun b hb hw => hother b fun hbx => hw ⟨nm, e, x, he, hx, hbx.symm⟩) (fun b hb hw => ?_) (fun k y hk => ?_) (fun k m e1 e2 y z h1 h2 hy hz hyz => ?_) (fun k e' hk => ?_)
  · by_cases h : k = nm'
    · subst h; rw [hr] at hk; cases hk
    · rw [hr1 k h]; exact hk
  · obtain ⟨k, e', y, h1, h2, h3⟩ := hw
    obtain ⟨k0, e0, g1, g2, _⟩ := back k e' y h1 h2
    exact ⟨k0, e0, y, g1, g2, h3⟩
  · by_cases h : k = nm'
    · subst h; rw [hr0] at hk; exact .inl ⟨nm, hx.trans hk⟩
    · rw [hr1 k h] at hk; exact .inl ⟨k, hk⟩
  · obtain ⟨k0, e0, g1, g2, g3⟩ := back k e1 y h1 hy
    obtain ⟨m0, e0', g1', g2', g3'⟩ := back m e2 z h2 hz
    have := s.inj k0 m0 e0 e0' y z g1 g1' g2 g2' hyz
    omega
  · by_cases h : k = nm'
    · subst h
      rw [hl0] at hk; injection hk with hk; subst hk
      obtain ⟨g1, g2, g3⟩ := s.blk nm e he
      rcases g3 with ⟨g3, _⟩ | ⟨y, cs', g3, g4, g5, g6, g7, g8⟩
      · rw [hx] at g3; cases g3
      · rw [hx] at g3; injection g3 with g3; subst g3
        exact ⟨g1, hv, .inr ⟨x, cs, hr0, g4, hthis, hsize, hn, hf⟩⟩
    · by_cases h' : k = nm
      · subst h'; rw [hl1] at hk; cases hk
      · rw [hl k h h'] at hk
        exact s.old hk (hr1 k h) fun y hy => hother _ fun hyx => h' (s.inj k nm e' e y x hk he hy hx hyx)

/-- An empty row without a block; some names may die. -/
theorem St.empty {cx r H w} (s : St cx r H w) {nm : Nat} (hr : r nm = none) (hnm : hget H nm = none) (dead : Hp) (hdead : ∀ k e, hget (dead ++ H) k = some e → hget H k = some e) (t : TypeId) (sz : Nat) (f : Nat → Nat → CV) (hsz : 0 < sz) :
    Ext r (wr r H) w r (wr r ((nm, some ⟨t, 0, sz, false, f⟩) :: (dead ++ H))) w ∧ St cx r ((nm, some ⟨t, 0, sz, false, f⟩) :: (dead ++ H)) w := by
  have hl0 : hget ((nm, some ⟨t, 0, sz, false, f⟩) :: (dead ++ H)) nm = some ⟨t, 0, sz, false, f⟩ := look_cons_eq _ _ _ _
  have hl : ∀ k, k ≠ nm → hget ((nm, some ⟨t, 0, sz, false, f⟩) :: (dead ++ H)) k = hget (dead ++ H) k := fun k hk => look_cons_ne _ _ _ hk
  have live : ∀ k e' x, hget ((nm, some ⟨t, 0, sz, false, f⟩) :: (dead ++ H)) k = some e' → r k = some x → hget H k = some e' := fun k e' x h hx => by
    by_cases hk : k = nm
    · subst hk; rw [hr] at hx; cases hx
    · rw [hl k hk] at h; exact hdead k e' h
  refine s.step (fun _ _ h => h) rfl rfl rfl (Nat.le_refl _) (fun _ _ _ => rfl) (fun b hb hw => ?_) (fun k y hk => .inl ⟨k, hk⟩) (fun n m e1 e2 y z h1 h2 hy hz hyz => ?_) (fun k e' hk => ?_)
  · obtain ⟨k, e', y, h1, h2, h3⟩ := hw
    exact ⟨k, e', y, live k e' y h1 h2, h2, h3⟩
  · exact s.inj n m e1 e2 y z (live n e1 y h1 hy) (live m e2 z h2 hz) hy hz hyz
  · by_cases h : k = nm
    · subst h
      rw [hl0] at hk; injection hk with hk; subst hk
      exact ⟨hsz, (fun h => by cases h), .inl ⟨hr, rfl⟩⟩
    · rw [hl k h] at hk
      exact s.old (hdead k e' hk) rfl fun _ _ => rfl

/-- A draw. -/
theorem St.drew {cx r H w} (s : St cx r H w) (n : Nat) : Ext r (wr r H) w r (wr r H) { w with drawn := n } ∧ St cx r H { w with drawn := n } :=
  s.step (fun _ _ h => h) rfl rfl rfl (Nat.le_refl _) (fun _ _ _ => rfl) (fun _ _ h => h) (fun k y hk => .inl ⟨k, hk⟩) s.inj (fun k e he => s.blk k e he)

/-- What a call that keeps all old memory leaves. -/
theorem St.below {cx r H w w'} (s : St cx r H w) (h : Below w.heap.size w w') : Ext r (wr r H) w r (wr r H) w' ∧ St cx r H w' :=
  s.step (fun _ _ h => h) h.os h.tape h.output h.size (fun b hb _ => h.block b hb) (fun _ _ h => h) (fun k y hk => .inl ⟨k, hk⟩) s.inj
    (fun k e he => s.old he rfl fun x hx => h.block _ (s.dom k x hx).1)
end Go.Proofs.Ytjknkfjhcapocaa.AX
