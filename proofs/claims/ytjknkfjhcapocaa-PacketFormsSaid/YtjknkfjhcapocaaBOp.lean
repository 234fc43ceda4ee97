/- One operation in the abstract: what it asks, what it yields, what it does to owned memory. -/
import Derived.Test.YtjknkfjhcapocaaB
import Derived.Laws.Entries
namespace Go.Proofs.Ytjknkfjhcapocaa.AX
open Go.RowKit
set_option linter.unusedVariables false

/-! ### Types -/
inductive TD where
  | int (k : IntKind)
  | bool
  | struct (fs : List (Nat × Nat × Option Bool))
  | arr (n : Nat) (e : TypeId) (esz : Nat) (eagg : Option Bool)
  | slice (e : TypeId) (esz : Nat) (there : Bool)
  | ptr (e : TypeId)
  | other
structure TI where
  d : TD
  size : Nat
  zero : List CV
  eq : List Bool
  bytes : Nat

def isCellB : Value → Bool
  | .agg _ => false
  | .tuple _ => false
  | _ => true
theorem isCell_of {v : Value} (h : isCellB v = true) : isCell v := by cases v <;> simp [isCellB] at h <;> trivial

def ofVal : Value → CV
  | .int k n => .int k n
  | .bool b => .bool b
  | .pointer none => .nilp
  | .slice none 0 0 => .nils
  | _ => .top
theorem rel_ofVal {r X W w} {v : Value} (h : isCellB v = true) : (ofVal v).rel r X W w v := by
  unfold ofVal
  split
  · rfl
  · rfl
  · rfl
  · rfl
  · exact isCell_of h

def isAggD : TypeDesc → Bool
  | .struct _ => true
  | .array _ _ => true
  | _ => false
def szN (P : Program) (t : TypeId) : Nat := ((P.info? t).map (·.size)).getD 0
def tdOf (P : Program) : TypeDesc → TD
  | .int k => .int k
  | .bool => .bool
  | .struct fs => .struct (fs.toList.map fun f => (f.offset, szN P f.type, (P.underlying f.type).map isAggD))
  | .array n e => .arr n e (szN P e) ((P.underlying e).map isAggD)
  | .slice e => .slice e (szN P e) (P.info? e).isSome
  | .pointer e => .ptr e
  | _ => .other
/-- The cells of a type that is compared cell by cell: which of them are truth values (the others are numbers). -/
def eqFs (E : TypeId → Option (List Bool)) (P : Program) : List Field → Nat → Option (List Bool)
  | [], _ => some []
  | f :: fs, off => bif f.name != "_" && Nat.beq f.offset off then
      match E f.type with
      | some l => bif Nat.beq (szN P f.type) l.length && Nat.blt 0 l.length then
          match eqFs E P fs (off + l.length) with
          | some l' => some (l ++ l')
          | none => none
        else none
      | none => none
    else none
def eqT (P : Program) : Nat → TypeId → Option (List Bool)
  | 0, _ => none
  | m + 1, t =>
    match P.underlying t with
    | some .bool => some [true]
    | some (.int _) => some [false]
    | some (.array n e) => match eqT P m e with
      | some l => bif Nat.beq (szN P e) l.length && Nat.blt 0 l.length then some (List.replicate n l).flatten else none
      | none => none
    | some (.struct fs) => bif P.stoodInHeld t then none else eqFs (eqT P m) P fs.toList 0
    | _ => none
def tyChk (P : Program) (t : TypeId) (ti : TI) : Prop :=
  (P.info? t).map (fun i => (i.size, i.bytes, i.zero.map fun z => (z.cells.toList.map ofVal, z.cells.toList.all isCellB))) = some (ti.size, ti.bytes, some (ti.zero, true)) ∧
  (P.underlying t).map (tdOf P) = some ti.d ∧
  (ti.eq.isEmpty || ((eqT P 6 t == some ti.eq) && !P.eqGuardType P.depth t && ((P.underlying t).map isAggD == some true))) = true

abbrev Tys := TypeId → Option TI
def TysOk (P : Program) (T : Tys) : Prop := ∀ t ti, T t = some ti → tyChk P t ti

theorem tyChk.info {P t ti} (h : tyChk P t ti) : ∃ i z, P.info? t = some i ∧ i.size = ti.size ∧ i.zero = some z ∧ z.cells.toList.map ofVal = ti.zero ∧ z.cells.toList.all isCellB = true ∧ i.bytes = ti.bytes := by
  have h1 := h.1
  cases hi : P.info? t with
  | none => rw [hi] at h1; cases h1
  | some i =>
    rw [hi] at h1
    simp only [Option.map_some, Option.some.injEq, Prod.mk.injEq] at h1
    cases hz : i.zero with
    | none => rw [hz] at h1; cases h1.2.2
    | some z =>
      rw [hz] at h1
      simp only [Option.map_some, Option.some.injEq, Prod.mk.injEq] at h1
      exact ⟨i, z, rfl, h1.1, hz, h1.2.2.1, h1.2.2.2, h1.2.1⟩
theorem tyChk.under {P t ti} (h : tyChk P t ti) : ∃ d, P.underlying t = some d ∧ tdOf P d = ti.d := by
  have h1 := h.2.1
  cases hd : P.underlying t with
  | none => rw [hd] at h1; cases h1
  | some d => rw [hd] at h1; exact ⟨d, rfl, by simpa using h1⟩
theorem td_int {P d k} (h : tdOf P d = .int k) : d = .int k := by cases d <;> simp [tdOf] at h; rw [h]
theorem td_bool {P d} (h : tdOf P d = .bool) : d = .bool := by cases d <;> simp [tdOf] at h; rfl
theorem td_slice {P d e s b} (h : tdOf P d = .slice e s b) : d = .slice e ∧ szN P e = s ∧ (P.info? e).isSome = b := by
  cases d <;> simp [tdOf] at h
  obtain ⟨rfl, h2, h3⟩ := h
  exact ⟨rfl, h2, h3⟩
theorem td_arr {P d n e s b} (h : tdOf P d = .arr n e s b) : d = .array n e ∧ szN P e = s ∧ (P.underlying e).map isAggD = b := by
  cases d <;> simp [tdOf] at h
  obtain ⟨rfl, rfl, h2, h3⟩ := h
  exact ⟨rfl, h2, h3⟩
theorem td_struct {P d fs} (h : tdOf P d = .struct fs) : ∃ a, d = .struct a ∧ a.toList.map (fun f => (f.offset, szN P f.type, (P.underlying f.type).map isAggD)) = fs := by
  cases d <;> simp [tdOf] at h
  exact ⟨_, rfl, h⟩
theorem szN_info {P : Program} {t : TypeId} {s : Nat} (h : szN P t = s) (h0 : s ≠ 0) : ∃ i, P.info? t = some i ∧ i.size = s := by
  unfold szN at h
  cases hi : P.info? t with
  | none => rw [hi] at h; simp at h; omega
  | some i => rw [hi] at h; exact ⟨i, rfl, by simpa using h⟩

/-! ### The operation -/
/-- What an operation comes to: what it asks, its value, what it does to owned blocks, which of them it looks at. New names lie from nm on. -/
structure SR where
  pre : Option Prop
  val : FV
  eff : Hp
  rd : List Nat

def preOk : Option Prop → Prop
  | none => True
  | some p => p

def evC : Value → FV
  | .int k n => .e (.c (.int k n))
  | .bool b => .e (.c (.bool b))
  | .pointer none => .e (.c .nilp)
  | .slice none 0 0 => .e (.c .nils)
  | _ => .top
def ev (fr : Fr) : Operand → FV
  | .tmp t => fget fr t
  | .const v => evC v
  | .func f => .e (.c (.fn f 0 0 (fun _ => .top)))
  | _ => .top
theorem ev_ok {cx r H w fr} {a : Act} (h : FrOk cx r H w fr a.tmps) (x : Operand) : (ev fr x).rel r cx.X (wr r H) w (a.eval x) := by
  cases x with
  | tmp t => exact h _
  | global g => trivial
  | func f => exact ⟨#[], #[], rfl, rfl, rfl, fun k u h => (by simp at h), fun k u h => (by simp at h)⟩
  | const v =>
  show (evC v).rel r cx.X (wr r H) w v
  unfold evC
  split
  · rfl
  · rfl
  · rfl
  · rfl
  · trivial

/-- Makes the head of a cell's value plain. -/
def CV.see {α : Type} (x : CV) (K : CV → α) : α :=
  match x with
  | .top => K .top
  | .int k n => K (.int k n)
  | .bool b => K (.bool b)
  | .ptr nm i j s => K (.ptr nm i j s)
  | .nilp => K .nilp
  | .sl sh n sz f => K (.sl sh n sz f)
  | .rp sh m g => K (.rp sh m g)
  | .os nm i n => K (.os nm i n)
  | .oa nm i j n es => K (.oa nm i j n es)
  | .nils => K .nils
  | .fn f n m a => K (.fn f n m a)
theorem CV.see_eq {α : Type} (x : CV) (K : CV → α) : x.see K = K x := by cases x <;> rfl
def EV.see {α : Type} (x : EV) (K : EV → α) : α :=
  match x with
  | .c x => x.see fun x => K (.c x)
  | .agg n f => K (.agg n f)
theorem EV.see_eq {α : Type} (x : EV) (K : EV → α) : x.see K = K x := by cases x with | c x => exact CV.see_eq x (fun x => K (.c x)) | agg n f => rfl
def FV.see {α : Type} (x : FV) (K : FV → α) : α :=
  match x with
  | .top => K .top
  | .e x => x.see fun x => K (.e x)
  | .tup l => K (.tup l)
theorem FV.see_eq {α : Type} (x : FV) (K : FV → α) : x.see K = K x := by cases x with | e x => exact EV.see_eq x (fun x => K (.e x)) | top => rfl | tup l => rfl

def shlI (k : IntKind) (x y : Int) : Int := k.wrap (x * 2 ^ (min y.toNat k.bits))
def shrI (k : IntKind) (x y : Int) : Int := x.fdiv (2 ^ (min y.toNat k.bits))

def intBin (op : BinOp) (k : IntKind) (a b : Int) : Option (Option Prop × CV) :=
  match op with
  | .add => some (none, .int k (k.wrap (a + b)))
  | .sub => some (none, .int k (k.wrap (a - b)))
  | .mul => some (none, .int k (k.wrap (a * b)))
  | .quo => some (some (b ≠ 0), .int k (k.wrap (a.tdiv b)))
  | .rem => some (some (b ≠ 0), .int k (a.tmod b))
  | .and => some (none, .int k (bits .and k a b))
  | .or => some (none, .int k (bits .or k a b))
  | .xor => some (none, .int k (bits .xor k a b))
  | .andNot => some (none, .int k (bits .andNot k a b))
  | .eql => some (none, .bool (a == b))
  | .neq => some (none, .bool (a != b))
  | .lss => some (none, .bool (decide (a < b)))
  | .leq => some (none, .bool (decide (a ≤ b)))
  | .gtr => some (none, .bool (decide (b < a)))
  | .geq => some (none, .bool (decide (b ≤ a)))
  | _ => none
def isShift : BinOp → Bool
  | .shl => true
  | .shr => true
  | _ => false
def shBin (op : BinOp) (k : IntKind) (a b : Int) : Option (Option Prop × CV) :=
  match op with
  | .shl => some (some (0 ≤ b), .int k (shlI k a b))
  | .shr => some (some (0 ≤ b), .int k (shrI k a b))
  | _ => none
def kindEq (a b : IntKind) : Bool := decide (a = b)
/-- Whether two cells can be compared, and whether they are equal. -/
def okCell : Bool → CV → CV → Bool
  | false, .int k _, .int k' _ => kindEq k k'
  | true, .bool _, .bool _ => true
  | _, _, _ => false
def eqCell : CV → CV → Bool
  | .int _ a, .int _ b => a == b
  | .bool a, .bool b => a == b
  | _, _ => false
def okFrom (f g : Nat → CV) : List Bool → Nat → Bool
  | [], _ => true
  | b :: l, off => okCell b (f off) (g off) && okFrom f g l (off + 1)
def eqFrom (f g : Nat → CV) : Nat → Nat → Bool
  | 0, _ => true
  | n + 1, off => eqCell (f off) (g off) && eqFrom f g n (off + 1)
/-- A slice compared with nil. -/
def slLen : CV → Option (Option Nat)
  | .sl _ n _ _ => some (some n)
  | .os _ _ n => some (some n)
  | .oa _ _ _ n _ => some (some n)
  | .nils => some none
  | _ => none
def nilB (T : Tys) (op : BinOp) (t : TypeId) (x : CV) : Option (Option Prop × CV) :=
  match T t, op, slLen x with
  | some ⟨.slice _ _ _, _, _, _, _⟩, .eql, some (some n) => some (some (0 < n), .bool false)
  | some ⟨.slice _ _ _, _, _, _, _⟩, .neq, some (some n) => some (some (0 < n), .bool true)
  | some ⟨.slice _ _ _, _, _, _, _⟩, .eql, some none => some (none, .bool true)
  | some ⟨.slice _ _ _, _, _, _, _⟩, .neq, some none => some (none, .bool false)
  | _, _, _ => none
def bin (T : Tys) (op : BinOp) (t : TypeId) (x y : FV) : Option (Option Prop × CV) :=
  match x, y with
  | .e (.c (.int k a)), .e (.c (.int k' b)) => bif isShift op then shBin op k a b else bif kindEq k k' then intBin op k a b else none
  | .e (.c (.bool a)), .e (.c (.bool b)) =>
    match T t, op with
    | some ⟨.bool, _, _, _, _⟩, .eql => some (none, .bool (a == b))
    | some ⟨.bool, _, _, _, _⟩, .neq => some (none, .bool (a != b))
    | _, _ => none
  | .e (.agg n f), .e (.agg m g) =>
    match T t, op with
    | some ⟨_, _, _, l, _⟩, .eql => bif Nat.blt 0 l.length && Nat.beq n l.length && Nat.beq m l.length && okFrom f g l 0 then some (none, .bool (eqFrom f g n 0)) else none
    | some ⟨_, _, _, l, _⟩, .neq => bif Nat.blt 0 l.length && Nat.beq n l.length && Nat.beq m l.length && okFrom f g l 0 then some (none, .bool (!eqFrom f g n 0)) else none
    | _, _ => none
  | .e (.c x), .e (.c .nils) => nilB T op t x
  | _, _ => none

/-- Cells laid over others, at a literal place. -/
def ovr (f : Nat → CV) (off n : Nat) (g : Nat → CV) (j : Nat) : CV := bif Nat.ble off j && Nat.blt j (off + n) then g (j - off) else f j
/-- Cells laid over others, at any place. -/
def ovs (f : Nat → CV) (off n : Nat) (g : Nat → CV) (j : Nat) : CV := selC (Nat.ble off j && Nat.blt j (off + n)) (g (j - off)) (f j)
theorem ovs_eq (f : Nat → CV) (off n : Nat) (g : Nat → CV) : ovs f off n g = ovr f off n g := by funext j; exact selC_eq _ _ _
/-- Cells laid over the es cells of an element. -/
def ovw (sym : Bool) (es : Nat) (f : Nat → CV) (off n : Nat) (g : Nat → CV) : Nat → CV :=
  match sym with
  | true => ovs f off n g
  | false => bif Nat.beq off 0 && Nat.beq n es then g else ovr f off n g
theorem ovw_eq (sym : Bool) (es : Nat) (f : Nat → CV) (off n : Nat) (g : Nat → CV) (j : Nat) (hj : j < es) : ovw sym es f off n g j = ovr f off n g j := by
  cases sym with
  | true => exact congrFun (ovs_eq f off n g) j
  | false =>
    show (bif Nat.beq off 0 && Nat.beq n es then g else ovr f off n g) j = _
    cases hb : (Nat.beq off 0 && Nat.beq n es) with
    | false => rfl
    | true =>
      simp only [Bool.and_eq_true] at hb
      have e1 : off = 0 := Nat.eq_of_beq_eq_true hb.1
      have e2 : n = es := Nat.eq_of_beq_eq_true hb.2
      subst e1 e2
      unfold ovr
      have h1 : (Nat.ble 0 j && Nat.blt j (0 + n)) = true := by
        simp only [Bool.and_eq_true]
        exact ⟨Nat.ble_eq_true_of_le (Nat.zero_le _), Nat.ble_eq_true_of_le (by omega)⟩
      rw [h1]; simp
/-- Element i of a block turns. -/
def updE (v : Bool) (f : Nat → Nat → CV) (i : Nat) (g : Nat → CV) : Nat → Nat → CV :=
  match v with
  | true => fun _ => g
  | false => fun k j => selC (Nat.beq k i) (g j) (f k j)
/-- Elements laid over others. -/
def ovE (f : Nat → Nat → CV) (i n : Nat) (g : Nat → Nat → CV) : Nat → Nat → CV := fun k j => selC (Nat.ble i k && Nat.blt k (i + n)) (g (k - i) j) (f k j)
def nth (l : List CV) (i : Nat) : CV := (l[i]?).getD .top
def nthE (l : List EV) (i : Nat) : EV := (l[i]?).getD (.c .top)
def cellsOf : EV → Option (Nat × (Nat → CV))
  | .c .top => none
  | .c x => some (1, fun _ => x)
  | .agg n f => some (n, f)

/-- The parts of a struct or of a row laid over its cells. -/
def fillF (place : Nat → Option (Nat × Nat)) (N : Nat) (f : Nat → CV) : List (Nat × FV) → Option (Nat → CV)
  | [] => some f
  | (i, .e x) :: rest =>
    match place i, cellsOf x with
    | some (off, size), some (n, g) => bif Nat.beq n size && Nat.ble (off + n) N then fillF place N (ovr f off n g) rest else none
    | _, _ => none
  | _ => none
/-- The same, with heads that show at any place. -/
def fillS (place : Nat → Option (Nat × Nat)) (N : Nat) (f : Nat → CV) : List (Nat × FV) → Option (Nat → CV)
  | [] => some f
  | (i, .e x) :: rest =>
    match place i, cellsOf x with
    | some (off, size), some (n, g) => bif Nat.beq n size && Nat.ble (off + n) N then fillS place N (ovs f off n g) rest else none
    | _, _ => none
  | _ => none
theorem fillS_eq (place : Nat → Option (Nat × Nat)) (N : Nat) : ∀ (l : List (Nat × FV)) (f : Nat → CV), fillS place N f l = fillF place N f l := by
  intro l
  induction l with
  | nil => intro f; rfl
  | cons p l ih =>
    intro f
    obtain ⟨i, x⟩ := p
    cases x with
    | top => rfl
    | tup => rfl
    | e x => simp only [fillS, fillF, ih, ovs_eq]
def eqI (k : IntKind) (n : Int) : CV → Bool
  | .int k' m => kindEq k k' && decide (n = m)
  | _ => false
/-- A row of zeroes, with heads that show at any place. -/
def zf (z : List CV) : Nat → CV :=
  match z with
  | .int k n :: rest => bif rest.all (eqI k n) then fun _ => .int k n else nth z
  | _ => nth z
theorem zf_eq {z : List CV} {i : Nat} (h : i < z.length) : zf z i = nth z i := by
  cases z with
  | nil => simp at h
  | cons x rest =>
    cases x <;> try rfl
    rename_i k n
    unfold zf
    simp only
    cases hb : rest.all (eqI k n) with
    | false => rfl
    | true =>
      rw [cond_true]
      cases i with
      | zero => rfl
      | succ i =>
        have hi : i < rest.length := by simpa using h
        have h1 := List.all_eq_true.1 hb _ (List.getElem_mem hi)
        have h2 : nth (.int k n :: rest) (i + 1) = rest[i] := by simp [nth, List.getElem?_eq_getElem hi]
        rw [h2]
        generalize rest[i] = y at h1 ⊢
        cases y <;> simp [eqI, kindEq] at h1
        rw [h1.1, h1.2]
/-- The parts of a literal slice: elements of sz cells. -/
def partsF (sz N : Nat) (f : Nat → Nat → CV) : List (Nat × FV) → Option (Nat → Nat → CV)
  | [] => some f
  | (i, .e x) :: rest =>
    match cellsOf x with
    | some (n, g) => bif Nat.beq n sz && Nat.blt i N then partsF sz N (fun k j => selC (Nat.beq k i) (g j) (f k j)) rest else none
    | none => none
  | _ => none

def one (x : CV) : FV := .e (.c x)

def both : Option Prop → Option Prop → Option Prop
  | none, q => q
  | some p, none => some p
  | some p, some q => some (p ∧ q)
theorem both_ok {p q : Option Prop} : preOk (both p q) ↔ preOk p ∧ preOk q := by
  cases p <;> cases q <;> simp [both, preOk]
/-- That s cells lie within m: seen at once where the place is a literal. -/
def fits (lit : Bool) (s m : Nat) : Option Prop :=
  match lit with
  | true => bif Nat.ble s m then none else some False
  | false => some (s ≤ m)
theorem fits_ok {lit : Bool} {s m : Nat} (h : preOk (fits lit s m)) : s ≤ m := by
  cases lit with
  | false => exact h
  | true =>
    simp only [fits] at h
    cases hb : Nat.ble s m with
    | true => exact Nat.le_of_ble_eq_true hb
    | false => rw [hb] at h; exact h.elim
def loadF (ti : TI) (m : Nat) (g : Nat → CV) (lit : Bool) (q : Option Prop) (rd : List Nat) : Option SR :=
  match ti with
  | ⟨.struct _, size, _, _, _⟩ => some ⟨both q (fits lit size m), .e (.agg size g), [], rd⟩
  | ⟨.arr _ _ _ _, size, _, _, _⟩ => some ⟨both q (fits lit size m), .e (.agg size g), [], rd⟩
  | _ => (g 0).see fun x => some ⟨both q (fits lit 1 m), .e (.c x), [], rd⟩

/-- What a slice holds: its length, its elements, what has to hold for it, the names that are looked at. sz: the cells of an element. -/
structure Src where
  n : Nat
  g : Nat → Nat → CV
  pre : Option Prop
  rd : List Nat
def srcOf (H : Hp) (sz : Nat) : FV → Option Src
  | .e (.c (.sl _ n s f)) => bif Nat.beq s sz then some ⟨n, f, none, []⟩ else none
  | .e (.c .nils) => some ⟨0, fun _ _ => .top, none, []⟩
  | .e (.c (.os nm i n)) =>
    match hget H nm with
    | some ⟨_, en, es, _, f⟩ => bif Nat.beq es sz then some ⟨n, fun k j => f (i + k) j, some (i + n ≤ en), [nm]⟩ else none
    | none => none
  | .e (.c (.oa nm i j n s)) =>
    match hget H nm with
    | some ⟨_, en, es, _, f⟩ => bif Nat.beq s sz then some ⟨n, fun k q => f i (j + (k * s + q)), some (i < en ∧ j + n * s ≤ es), [nm]⟩ else none
    | none => none
  | _ => none
def callB (T : Tys) (b : Builtin) (ts : Array TypeId) (args : List FV) (H : Hp) (nm : Nat) : Option SR :=
  match b, args with
  | .len, [x] =>
    match ts[0]? with
    | some t => match T t with
      | some ⟨.slice _ _ _, _, _, _, _⟩ =>
        match x with
        | .e (.c (.sl _ n _ _)) => some ⟨none, one (.int .i64 n), [], []⟩
        | .e (.c (.os _ _ n)) => some ⟨none, one (.int .i64 n), [], []⟩
        | .e (.c (.oa _ _ _ n _)) => some ⟨none, one (.int .i64 n), [], []⟩
        | .e (.c .nils) => some ⟨none, one (.int .i64 0), [], []⟩
        | _ => none
      | _ => none
    | none => none
  | .min, [.e (.c (.int k a)), .e (.c (.int _ b))] => some ⟨none, one (.int k (if b < a then b else a)), [], []⟩
  | .max, [.e (.c (.int k a)), .e (.c (.int _ b))] => some ⟨none, one (.int k (if a < b then b else a)), [], []⟩
  | .append, [x, y] =>
    match ts.toList with
    | [t, t'] => bif Nat.beq t t' then
      match T t with
      | some ⟨.slice e es true, _, _, _, _⟩ =>
        match T e, bif Nat.blt 0 es then srcOf H es y else none with
        | some ⟨_, _, z, _, bytes⟩, some ⟨m, g, p, rd⟩ => bif Nat.beq z.length es then
          match x with
          | .e (.c .nils) => some ⟨both p (some (m * bytes ≤ 140737488355328 ∧ m ≤ 9223372036854775807)), one (.os nm 0 m), [(nm, some ⟨e, m, es, false, g⟩)], rd⟩
          | .e (.c (.os k i n)) =>
            match hget H k with
            | some ⟨et, en, esz, false, f⟩ => bif Nat.beq i 0 && Nat.beq esz es && Nat.beq et e then some ⟨both p (some (n = en ∧ (n + m) * bytes ≤ 140737488355328 ∧ n + m ≤ 9223372036854775807)), one (.os nm 0 (n + m)), [(nm, some ⟨e, n + m, es, false, fun k j => selC (Nat.blt k n) (f k j) (g (k - n) j)⟩), (k, none)], k :: rd⟩ else none
            | _ => none
          | _ => none
          else none
        | _, _ => none
      | _ => none
      else none
    | _ => none
  | .copy, [x, y] =>
    match ts[0]? with
    | some t =>
      match T t with
      | some ⟨.slice e es true, _, _, _, _⟩ =>
        match bif Nat.blt 0 es then srcOf H es y else none with
        | some ⟨m, g, p, rd⟩ =>
          match x with
          | .e (.c (.os k i n)) =>
            match hget H k with
            | some ⟨et, en, esz, false, f⟩ => bif Nat.beq esz es then some ⟨both p (some (i + n ≤ en)), one (.int .i64 (Nat.min m n)), [(k, some ⟨et, en, esz, false, ovE f i (Nat.min m n) g⟩)], k :: rd⟩ else none
            | _ => none
          | .e (.c (.oa k i j n s)) =>
            match hget H k with
            | some ⟨et, en, esz, v, f⟩ => bif Nat.beq s es then some ⟨both p (some (i < en ∧ j + n * s ≤ esz)), one (.int .i64 (Nat.min m n)), [(k, some ⟨et, en, esz, v, updE v f i (ovs (f i) j (Nat.min m n * s) fun q => g (q / s) (q % s))⟩)], k :: rd⟩ else none
            | _ => none
          | _ => none
        | none => none
      | _ => none
    | none => none
  | _, _ => none

/-- The bounds of a slice expression: what they ask of the length n, and where they lie. -/
def bnds (lo hi : Option FV) (n : Nat) : Option (Option Prop × Nat × Nat) :=
  match lo, hi with
  | none, none => some (none, 0, n)
  | some (.e (.c (.int _ l))), none => some (some (0 ≤ l ∧ l ≤ n), l.toNat, n)
  | none, some (.e (.c (.int _ h))) => some (some (0 ≤ h ∧ h ≤ n), 0, h.toNat)
  | some (.e (.c (.int _ l))), some (.e (.c (.int _ h))) => some (some (0 ≤ l ∧ l ≤ h ∧ h ≤ n), l.toNat, h.toNat)
  | _, _ => none

def sliceF (T : Tys) (H : Hp) (t : TypeId) (x : FV) (lo hi : Option FV) : Option SR :=
  match T t, x with
  | some ⟨.slice _ es true, _, _, _, _⟩, .e (.c (.sl sh n sz f)) =>
    match bnds lo hi n with
    | some (p, l, h) => bif Nat.beq sz es then some ⟨p, one (.sl sh (h - l) sz (fun i => f (l + i))), [], []⟩ else none
    | none => none
  | some ⟨.slice _ es true, _, _, _, _⟩, .e (.c (.os k i n)) =>
    match bnds lo hi n with
    | some (p, l, h) =>
      match hget H k with
      | some ⟨_, _, esz, _, _⟩ => bif Nat.beq esz es then some ⟨p, one (.os k (i + l) (h - l)), [], [k]⟩ else none
      | none => none
    | none => none
  | some ⟨.slice _ es true, _, _, _, _⟩, .e (.c (.oa k i j n s)) =>
    match bnds lo hi n with
    | some (p, l, h) => bif Nat.beq s es then some ⟨p, one (.oa k i (j + l * s) (h - l) s), [], []⟩ else none
    | none => none
  | some ⟨.arr n _ es _, _, _, _, _⟩, .e (.c (.ptr k i j _)) =>
    match bnds lo hi n with
    | some (p, l, h) => bif Nat.blt 0 es then some ⟨p, one (.oa k i (j + l * es) (h - l) es), [], []⟩ else none
    | none => none
  | some ⟨.arr n _ es _, _, _, _, _⟩, .e (.c (.rp sh m g)) =>
    match bnds lo hi n with
    | some (p, l, h) => bif Nat.blt 0 es then some ⟨both p (some (n * es ≤ m)), one (.sl sh (h - l) es (fun i q => g ((l + i) * es + q))), [], []⟩ else none
    | none => none
  | _, _ => none

def fnArgs (n m : Nat) (a : Nat → CV) (args : List FV) : List FV := (List.range n).map (fun k => one (a k)) ++ args ++ (List.range m).map (fun k => one (a (n + k)))

def stepF (T : Tys) (o : Op) (fr : Fr) (H : Hp) (nm : Nat) : Option SR :=
  match o with
  | .move x => (ev fr x).see fun v => some ⟨none, v, [], []⟩
  | .assign x => (ev fr x).see fun v => some ⟨none, v, [], []⟩
  | .pick c a b =>
    match ev fr c with
    | .e (.c (.bool true)) => (ev fr a).see fun v => some ⟨none, v, [], []⟩
    | .e (.c (.bool false)) => (ev fr b).see fun v => some ⟨none, v, [], []⟩
    | _ => none
  | .alloc t =>
    match T t with
    | some ⟨_, _, z, _, _⟩ => bif Nat.blt 0 z.length then some ⟨none, one (.ptr nm 0 0 false), [(nm, some ⟨t, 1, z.length, true, fun _ => nth z⟩)], []⟩ else none
    | none => none
  | .box t x =>
    match ev fr x with
    | .e x => match cellsOf x with
      | some (n, f) => bif Nat.blt 0 n then some ⟨none, one (.ptr nm 0 0 false), [(nm, some ⟨t, 1, n, true, fun _ => f⟩)], []⟩ else none
      | none => none
    | _ => none
  | .build t parts =>
    match T t with
    | some ⟨.struct fs, _, z, _, _⟩ => bif fs.all (fun x => x.2.2.isSome) then
      match fillF (fun i => (fs[i]?).map fun x => (x.1, x.2.1)) z.length (nth z) (parts.toList.map fun p => (p.1, ev fr p.2)) with
      | some f => some ⟨none, .e (.agg z.length f), [], []⟩
      | none => none
      else none
    | some ⟨.arr _ _ es _, _, z, _, _⟩ => bif Nat.blt 0 es then
      match fillS (fun i => bif Nat.blt 0 es then some (i * es, es) else none) z.length (zf z) (parts.toList.map fun p => (p.1, ev fr p.2)) with
      | some f => some ⟨none, .e (.agg z.length f), [], []⟩
      | none => none
      else none
    | _ => none
  | .buildSlice t len parts =>
    match T t with
    | some ⟨.slice e es true, _, _, _, _⟩ =>
      match T e with
      | some ⟨_, size, z, _, _⟩ => bif Nat.blt 0 es && Nat.beq z.length es && Nat.ble (len * es) 16777216 then
        match partsF es len (fun _ => nth z) (parts.toList.map fun p => (p.1, ev fr p.2)) with
        | some f => some ⟨none, one (.os nm 0 len), [(nm, some ⟨e, len, es, false, f⟩)], []⟩
        | none => none
        else none
      | none => none
    | _ => none
  | .makeSlice t l c =>
    match T t, ev fr l, ev fr c with
    | some ⟨.slice e es true, _, _, _, _⟩, .e (.c (.int _ l)), .e (.c (.int _ c)) =>
      match T e with
      | some ⟨_, _, z, _, bytes⟩ => bif Nat.blt 0 es && Nat.beq z.length es then some ⟨some (0 ≤ l ∧ l ≤ c ∧ (bytes : Int) * c ≤ 281474976710656 ∧ c ≤ 9223372036854775807), one (.os nm 0 l.toNat), [(nm, some ⟨e, l.toNat, es, false, fun _ => nth z⟩)], []⟩ else none
      | none => none
    | _, _, _ => none
  | .makeFunc (.func f) first captured =>
    match (first.toList.map (ev fr)).mapM fun | .e (.c x) => some x | _ => none, (captured.toList.map (ev fr)).mapM fun | .e (.c x) => some x | _ => none with
    | some l, some l' => some ⟨none, one (.fn f l.length l'.length (nth (l ++ l'))), [], []⟩
    | _, _ => none
  | .load t a =>
    match T t, ev fr a with
    | some ti, .e (.c (.ptr k i j sym)) =>
      match hget H k with
      | some ⟨_, en, es, v, ef⟩ => loadF ti (es - j) (fun q => ef i (j + q)) (!sym) (fits v (i + 1) en) [k]
      | none => none
    | some ti, .e (.c (.rp _ m g)) => loadF ti m g false none []
    | _, _ => none
  | .store t a x =>
    match T t, ev fr a, ev fr x with
    | some ⟨_, tsz, _, _, _⟩, .e (.c (.ptr k i j sym)), .e x =>
      match hget H k, cellsOf x with
      | some ⟨et, en, es, v, ef⟩, some (n, g) => bif Nat.beq n tsz then some ⟨both (fits v (i + 1) en) (fits (!sym) (j + n) es), .top, [(k, some ⟨et, en, es, v, updE v ef i (ovw sym es (ef i) j n g)⟩)], [k]⟩ else none
      | _, _ => none
    | _, _, _ => none
  | .nilCheck x =>
    match ev fr x with
    | .e (.c (.ptr k i j s)) => some ⟨none, one (.ptr k i j s), [], []⟩
    | .e (.c (.rp sh m g)) => some ⟨none, one (.rp sh m g), [], []⟩
    | .e (.c (.fn f n m a)) => some ⟨none, one (.fn f n m a), [], []⟩
    | _ => none
  | .binOp op t x y _ =>
    match bin T op t (ev fr x) (ev fr y) with
    | some (p, v) => v.see fun v => some ⟨p, .e (.c v), [], []⟩
    | none => none
  | .unOp op _ x =>
    match op, ev fr x with
    | .not, .e (.c (.bool b)) => some ⟨none, one (.bool (!b)), [], []⟩
    | .neg, .e (.c (.int k n)) => some ⟨none, one (.int k (k.wrap (0 - n))), [], []⟩
    | .xor, .e (.c (.int k n)) => some ⟨none, one (.int k (bits .xor k (if k.signed then -1 else k.max) n)), [], []⟩
    | _, _ => none
  | .convert src dst x =>
    match T src, T dst, ev fr x with
    | some _, some ⟨.int k, _, _, _, _⟩, .e (.c (.int _ n)) => some ⟨none, one (.int k (k.wrap n)), [], []⟩
    | _, _, _ => none
  | .fieldAddr t x f =>
    match T t, ev fr x with
    | some ⟨.struct fs, _, _, _, _⟩, .e (.c (.ptr k i j s)) =>
      match fs[f]? with
      | some (o, sz, _) => bif Nat.blt 0 sz then some ⟨none, one (.ptr k i (j + o) s), [], []⟩ else none
      | none => none
    | some ⟨.struct fs, _, _, _, _⟩, .e (.c (.rp sh m g)) =>
      match fs[f]? with
      | some (o, s, _) => bif Nat.blt 0 s then some ⟨none, one (.rp sh (m - o) (fun j => g (o + j))), [], []⟩ else none
      | none => none
    | _, _ => none
  | .field t x f =>
    match T t, ev fr x with
    | some ⟨.struct fs, _, _, _, _⟩, .e (.agg n g) =>
      match fs[f]? with
      | some (o, s, some true) => bif Nat.blt 0 s && Nat.ble (o + s) n then some ⟨none, .e (.agg s (fun j => g (o + j))), [], []⟩ else none
      | some (o, s, some false) => bif Nat.blt o n then (g o).see fun x => some ⟨none, .e (.c x), [], []⟩ else none
      | _ => none
    | _, _ => none
  | .indexAddr t x ix =>
    match T t, ev fr x, ev fr ix with
    | some ⟨.slice _ es _, _, _, _, _⟩, .e (.c (.sl sh n sz f)), .e (.c (.int _ i)) => bif Nat.blt 0 es && Nat.beq sz es then some ⟨some (0 ≤ i ∧ i < n), one (.rp sh sz (f i.toNat)), [], []⟩ else none
    | some ⟨.slice _ es _, _, _, _, _⟩, .e (.c (.os k b n)), .e (.c (.int _ i)) =>
      match hget H k with
      | some ⟨_, _, esz, _, _⟩ => bif Nat.blt 0 es && Nat.beq esz es then some ⟨some (0 ≤ i ∧ i < n), one (.ptr k (b + i.toNat) 0 false), [], [k]⟩ else none
      | none => none
    | some ⟨.slice _ es _, _, _, _, _⟩, .e (.c (.oa k b j n s)), .e (.c (.int _ i)) => bif Nat.blt 0 es && Nat.beq s es then some ⟨some (0 ≤ i ∧ i < n), one (.ptr k b (j + i.toNat * s) true), [], []⟩ else none
    | some ⟨.arr n _ es _, _, _, _, _⟩, .e (.c (.ptr k b j s)), .e (.c (.int _ i)) => bif Nat.blt 0 es then some ⟨some (0 ≤ i ∧ i < n), one (.ptr k b (j + i.toNat * es) true), [], []⟩ else none
    | some ⟨.arr n _ es _, _, _, _, _⟩, .e (.c (.rp sh m g)), .e (.c (.int _ i)) => bif Nat.blt 0 es then some ⟨some (0 ≤ i ∧ i < n), one (.rp sh (m - i.toNat * es) (fun j => g (i.toNat * es + j))), [], []⟩ else none
    | _, _, _ => none
  | .index t x ix =>
    match T t, ev fr x, ev fr ix with
    | some ⟨.arr n _ es (some true), _, _, _, _⟩, .e (.agg m g), .e (.c (.int _ i)) => bif Nat.blt 0 es && Nat.ble (n * es) m then some ⟨some (0 ≤ i ∧ i < n), .e (.agg es (fun j => g (i.toNat * es + j))), [], []⟩ else none
    | some ⟨.arr n _ es (some false), _, _, _, _⟩, .e (.agg m g), .e (.c (.int _ i)) => bif Nat.blt 0 es && Nat.ble (n * es) m then (g (i.toNat * es)).see fun x => some ⟨some (0 ≤ i ∧ i < n), .e (.c x), [], []⟩ else none
    | _, _, _ => none
  | .extract x ix =>
    match ev fr x with
    | .tup l => match l[ix]? with
      | some y => y.see fun y => some ⟨none, .e y, [], []⟩
      | none => none
    | _ => none
  | .slice t x lo hi none => sliceF T H t (ev fr x) (lo.map (ev fr)) (hi.map (ev fr))
  | .call { callee := .builtin b, args, argTypes } => callB T b argTypes (args.toList.map (ev fr)) H nm
  | _ => none
/-- A call: the function and its arguments. -/
def callOf (o : Op) (fr : Fr) : Option (FuncId × List FV) :=
  match o with
  | .call { callee := .value f, args, .. } =>
    match ev fr f with
    | .e (.c (.fn f n m a)) => some (f, fnArgs n m a (args.toList.map (ev fr)))
    | _ => none
  | _ => none
end Go.Proofs.Ytjknkfjhcapocaa.AX
