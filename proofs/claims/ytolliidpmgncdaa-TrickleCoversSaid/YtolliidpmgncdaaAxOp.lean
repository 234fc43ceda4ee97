/- One operation in the abstract: what it asks, what it yields, what it does to owned memory. -/
import Derived.Test.YtolliidpmgncdaaAx
import Derived.Laws.Entries
namespace Go.Proofs.Ytolliidpmgncdaa.AX
open Go.RowKit
set_option linter.unusedVariables false

/-! ### Types -/
inductive TD where
  | int (k : IntKind)
  | bool
  | struct (fs : List (Nat × Nat × Option Bool))
  | arr (n : Nat) (e : TypeId) (esz : Nat) (eagg : Option Bool)
  | slice (e : TypeId) (esz : Nat) (there : Bool)
  | ptr (e : TypeId)
  | other
structure TI where
  d : TD
  size : Nat
  zero : List CV
  eq : List Bool

def isCellB : Value → Bool
  | .agg _ => false
  | .tuple _ => false
  | _ => true
theorem isCell_of {v : Value} (h : isCellB v = true) : isCell v := by cases v <;> simp [isCellB] at h <;> trivial

def ofVal : Value → CV
  | .int k n => .int k n
  | .bool b => .bool b
  | .pointer none => .nilp
  | .slice none 0 0 => .sl 0 0 (fun _ _ => .top)
  | _ => .top
theorem rel_ofVal {r O w} {v : Value} (h : isCellB v = true) : (ofVal v).rel r O w v := by
  unfold ofVal
  split
  · rfl
  · rfl
  · rfl
  · exact ⟨none, 0, rfl, Nat.le_refl _, Nat.zero_le _, fun h => absurd h (Nat.lt_irrefl _)⟩
  · exact isCell_of h

def isAggD : TypeDesc → Bool
  | .struct _ => true
  | .array _ _ => true
  | _ => false
def szN (P : Program) (t : TypeId) : Nat := ((P.info? t).map (·.size)).getD 0
def tdOf (P : Program) : TypeDesc → TD
  | .int k => .int k
  | .bool => .bool
  | .struct fs => .struct (fs.toList.map fun f => (f.offset, szN P f.type, (P.underlying f.type).map isAggD))
  | .array n e => .arr n e (szN P e) ((P.underlying e).map isAggD)
  | .slice e => .slice e (szN P e) (P.info? e).isSome
  | .pointer e => .ptr e
  | _ => .other
/-- The cells of a type that is compared cell by cell: which of them are truth values (the others are numbers). -/
def eqFs (E : TypeId → Option (List Bool)) (P : Program) : List Field → Nat → Option (List Bool)
  | [], _ => some []
  | f :: fs, off => bif f.name != "_" && Nat.beq f.offset off then
      match E f.type with
      | some l => bif Nat.beq (szN P f.type) l.length && Nat.blt 0 l.length then
          match eqFs E P fs (off + l.length) with
          | some l' => some (l ++ l')
          | none => none
        else none
      | none => none
    else none
def eqT (P : Program) : Nat → TypeId → Option (List Bool)
  | 0, _ => none
  | m + 1, t =>
    match P.underlying t with
    | some .bool => some [true]
    | some (.int _) => some [false]
    | some (.array n e) => match eqT P m e with
      | some l => bif Nat.beq (szN P e) l.length && Nat.blt 0 l.length then some (List.replicate n l).flatten else none
      | none => none
    | some (.struct fs) => bif P.stoodInHeld t then none else eqFs (eqT P m) P fs.toList 0
    | _ => none
def tyChk (P : Program) (t : TypeId) (ti : TI) : Prop :=
  (P.info? t).map (fun i => (i.size, i.zero.map fun z => (z.cells.toList.map ofVal, z.cells.toList.all isCellB))) = some (ti.size, some (ti.zero, true)) ∧
  (P.underlying t).map (tdOf P) = some ti.d ∧
  (ti.eq.isEmpty || ((eqT P 6 t == some ti.eq) && !P.eqGuardType P.depth t && ((P.underlying t).map isAggD == some true))) = true

abbrev Tys := TypeId → Option TI
def TysOk (P : Program) (T : Tys) : Prop := ∀ t ti, T t = some ti → tyChk P t ti

theorem tyChk.info {P t ti} (h : tyChk P t ti) : ∃ i z, P.info? t = some i ∧ i.size = ti.size ∧ i.zero = some z ∧ z.cells.toList.map ofVal = ti.zero ∧ z.cells.toList.all isCellB = true := by
  have h1 := h.1
  cases hi : P.info? t with
  | none => rw [hi] at h1; cases h1
  | some i =>
    rw [hi] at h1
    simp only [Option.map_some, Option.some.injEq, Prod.mk.injEq] at h1
    cases hz : i.zero with
    | none => rw [hz] at h1; cases h1.2
    | some z =>
      rw [hz] at h1
      simp only [Option.map_some, Option.some.injEq, Prod.mk.injEq] at h1
      exact ⟨i, z, rfl, h1.1, hz, h1.2.1, h1.2.2⟩
theorem tyChk.under {P t ti} (h : tyChk P t ti) : ∃ d, P.underlying t = some d ∧ tdOf P d = ti.d := by
  have h1 := h.2.1
  cases hd : P.underlying t with
  | none => rw [hd] at h1; cases h1
  | some d => rw [hd] at h1; exact ⟨d, rfl, by simpa using h1⟩
theorem td_int {P d k} (h : tdOf P d = .int k) : d = .int k := by cases d <;> simp [tdOf] at h; rw [h]
theorem td_bool {P d} (h : tdOf P d = .bool) : d = .bool := by cases d <;> simp [tdOf] at h; rfl
theorem td_slice {P d e s b} (h : tdOf P d = .slice e s b) : d = .slice e ∧ szN P e = s ∧ (P.info? e).isSome = b := by
  cases d <;> simp [tdOf] at h
  obtain ⟨rfl, h2, h3⟩ := h
  exact ⟨rfl, h2, h3⟩
theorem td_arr {P d n e s b} (h : tdOf P d = .arr n e s b) : d = .array n e ∧ szN P e = s ∧ (P.underlying e).map isAggD = b := by
  cases d <;> simp [tdOf] at h
  obtain ⟨rfl, rfl, h2, h3⟩ := h
  exact ⟨rfl, h2, h3⟩
theorem td_struct {P d fs} (h : tdOf P d = .struct fs) : ∃ a, d = .struct a ∧ a.toList.map (fun f => (f.offset, szN P f.type, (P.underlying f.type).map isAggD)) = fs := by
  cases d <;> simp [tdOf] at h
  exact ⟨_, rfl, h⟩
theorem szN_info {P : Program} {t : TypeId} {s : Nat} (h : szN P t = s) (h0 : s ≠ 0) : ∃ i, P.info? t = some i ∧ i.size = s := by
  unfold szN at h
  cases hi : P.info? t with
  | none => rw [hi] at h; simp at h; omega
  | some i => rw [hi] at h; exact ⟨i, rfl, by simpa using h⟩

/-! ### The operation -/
structure SR where
  pre : Option Prop
  val : FV
  eff : Hp
  rd : List Nat

/-- What a step asks, if it asks anything. -/
def preOk : Option Prop → Prop
  | none => True
  | some p => p

def evC : Value → FV
  | .int k n => .e (.c (.int k n))
  | .bool b => .e (.c (.bool b))
  | .pointer none => .e (.c .nilp)
  | .slice none 0 0 => .e (.c (.sl 0 0 (fun _ _ => .top)))
  | _ => .top
def ev (fr : Fr) : Operand → FV
  | .tmp t => fget fr t
  | .const v => evC v
  | _ => .top
theorem ev_ok {cx r H w fr} {a : Act} (h : FrOk cx r H w fr a.tmps) (x : Operand) : (ev fr x).rel r (own cx r H) w (a.eval x) := by
  cases x with
  | tmp t => exact h _
  | global g => trivial
  | func f => trivial
  | const v =>
  show (evC v).rel r (own cx r H) w v
  unfold evC
  split
  · rfl
  · rfl
  · rfl
  · exact ⟨none, 0, rfl, Nat.le_refl _, Nat.zero_le _, fun h => absurd h (Nat.lt_irrefl _)⟩
  · trivial

/-- Makes the head of a cell's value plain. -/
def CV.see {α : Type} (x : CV) (K : CV → α) : α :=
  match x with
  | .top => K .top
  | .int k n => K (.int k n)
  | .bool b => K (.bool b)
  | .ptr nm off => K (.ptr nm off)
  | .nilp => K .nilp
  | .sl n sz f => K (.sl n sz f)
  | .rp m g => K (.rp m g)
theorem CV.see_eq {α : Type} (x : CV) (K : CV → α) : x.see K = K x := by cases x <;> rfl
def EV.see {α : Type} (x : EV) (K : EV → α) : α :=
  match x with
  | .c x => x.see fun x => K (.c x)
  | .agg n f => K (.agg n f)
theorem EV.see_eq {α : Type} (x : EV) (K : EV → α) : x.see K = K x := by cases x with | c x => exact CV.see_eq x (fun x => K (.c x)) | agg n f => rfl
def FV.see {α : Type} (x : FV) (K : FV → α) : α :=
  match x with
  | .top => K .top
  | .e x => x.see fun x => K (.e x)
  | .tup l => K (.tup l)
theorem FV.see_eq {α : Type} (x : FV) (K : FV → α) : x.see K = K x := by cases x with | e x => exact EV.see_eq x (fun x => K (.e x)) | top => rfl | tup l => rfl

def shlI (k : IntKind) (x y : Int) : Int := k.wrap (x * 2 ^ (min y.toNat k.bits))
def shrI (k : IntKind) (x y : Int) : Int := x.fdiv (2 ^ (min y.toNat k.bits))

def intBin (op : BinOp) (k : IntKind) (a b : Int) : Option (Option Prop × CV) :=
  match op with
  | .add => some (none, .int k (k.wrap (a + b)))
  | .sub => some (none, .int k (k.wrap (a - b)))
  | .mul => some (none, .int k (k.wrap (a * b)))
  | .quo => some (some (b ≠ 0), .int k (k.wrap (a.tdiv b)))
  | .rem => some (some (b ≠ 0), .int k (a.tmod b))
  | .and => some (none, .int k (bits .and k a b))
  | .or => some (none, .int k (bits .or k a b))
  | .xor => some (none, .int k (bits .xor k a b))
  | .andNot => some (none, .int k (bits .andNot k a b))
  | .eql => some (none, .bool (a == b))
  | .neq => some (none, .bool (a != b))
  | .lss => some (none, .bool (decide (a < b)))
  | .leq => some (none, .bool (decide (a ≤ b)))
  | .gtr => some (none, .bool (decide (b < a)))
  | .geq => some (none, .bool (decide (b ≤ a)))
  | _ => none
def isShift : BinOp → Bool
  | .shl => true
  | .shr => true
  | _ => false
def shBin (op : BinOp) (k : IntKind) (a b : Int) : Option (Option Prop × CV) :=
  match op with
  | .shl => some (some (0 ≤ b), .int k (shlI k a b))
  | .shr => some (some (0 ≤ b), .int k (shrI k a b))
  | _ => none
def kindEq (a b : IntKind) : Bool := decide (a = b)
/-- Whether two cells can be compared, and whether they are equal. -/
def okCell : Bool → CV → CV → Bool
  | false, .int k _, .int k' _ => kindEq k k'
  | true, .bool _, .bool _ => true
  | _, _, _ => false
def eqCell : CV → CV → Bool
  | .int _ a, .int _ b => a == b
  | .bool a, .bool b => a == b
  | _, _ => false
def okFrom (f g : Nat → CV) : List Bool → Nat → Bool
  | [], _ => true
  | b :: l, off => okCell b (f off) (g off) && okFrom f g l (off + 1)
def eqFrom (f g : Nat → CV) : Nat → Nat → Bool
  | 0, _ => true
  | n + 1, off => eqCell (f off) (g off) && eqFrom f g n (off + 1)
def bin (T : Tys) (op : BinOp) (t : TypeId) (x y : FV) : Option (Option Prop × CV) :=
  match x, y with
  | .e (.c (.int k a)), .e (.c (.int k' b)) => bif isShift op then shBin op k a b else bif kindEq k k' then intBin op k a b else none
  | .e (.c (.bool a)), .e (.c (.bool b)) =>
    match T t, op with
    | some ⟨.bool, _, _, _⟩, .eql => some (none, .bool (a == b))
    | some ⟨.bool, _, _, _⟩, .neq => some (none, .bool (a != b))
    | _, _ => none
  | .e (.agg n f), .e (.agg m g) =>
    match T t, op with
    | some ⟨_, _, _, l⟩, .eql => bif Nat.blt 0 l.length && Nat.beq n l.length && Nat.beq m l.length && okFrom f g l 0 then some (none, .bool (eqFrom f g n 0)) else none
    | some ⟨_, _, _, l⟩, .neq => bif Nat.blt 0 l.length && Nat.beq n l.length && Nat.beq m l.length && okFrom f g l 0 then some (none, .bool (!eqFrom f g n 0)) else none
    | _, _ => none
  | _, _ => none

def ovr (f : Nat → CV) (off n : Nat) (g : Nat → CV) (j : Nat) : CV := bif Nat.ble off j && Nat.blt j (off + n) then g (j - off) else f j
def nth (l : List CV) (i : Nat) : CV := (l[i]?).getD .top
def nthE (l : List EV) (i : Nat) : EV := (l[i]?).getD (.c .top)
def cellsOf : EV → Option (Nat × (Nat → CV))
  | .c .top => none
  | .c x => some (1, fun _ => x)
  | .agg n f => some (n, f)

/-- The parts of a struct or of a row laid over its cells. -/
def fillF (place : Nat → Option (Nat × Nat)) (N : Nat) (f : Nat → CV) : List (Nat × FV) → Option (Nat → CV)
  | [] => some f
  | (i, .e x) :: rest =>
    match place i, cellsOf x with
    | some (off, size), some (n, g) => bif Nat.beq n size && Nat.ble (off + n) N then fillF place N (ovr f off n g) rest else none
    | _, _ => none
  | _ => none

def one (x : CV) : FV := .e (.c x)

def loadF (ti : TI) (m : Nat) (g : Nat → CV) (rd : List Nat) : Option SR :=
  match ti with
  | ⟨.struct _, size, _, _⟩ => some ⟨some (size ≤ m), .e (.agg size g), [], rd⟩
  | ⟨.arr _ _ _ _, size, _, _⟩ => some ⟨some (size ≤ m), .e (.agg size g), [], rd⟩
  | _ => (g 0).see fun x => some ⟨some (0 < m), .e (.c x), [], rd⟩

def callB (T : Tys) (b : Builtin) (ts : Array TypeId) (args : List FV) : Option SR :=
  match b, args with
  | .len, [.e (.c (.sl n _ _))] =>
    match ts[0]? with
    | some t => match T t with
      | some ⟨.slice _ _ _, _, _, _⟩ => some ⟨none, one (.int .i64 n), [], []⟩
      | _ => none
    | none => none
  | .min, [.e (.c (.int k a)), .e (.c (.int _ b))] => some ⟨none, one (.int k (if b < a then b else a)), [], []⟩
  | .max, [.e (.c (.int k a)), .e (.c (.int _ b))] => some ⟨none, one (.int k (if a < b then b else a)), [], []⟩
  | _, _ => none

abbrev Cs := FuncId → List FV → Hp → Nat → Option SR

def stepF (T : Tys) (C : Cs) (o : Op) (fr : Fr) (H : Hp) (nm : Nat) : Option SR :=
  match o with
  | .move x => (ev fr x).see fun v => some ⟨none, v, [], []⟩
  | .assign x => (ev fr x).see fun v => some ⟨none, v, [], []⟩
  | .pick c a b =>
    match ev fr c with
    | .e (.c (.bool true)) => (ev fr a).see fun v => some ⟨none, v, [], []⟩
    | .e (.c (.bool false)) => (ev fr b).see fun v => some ⟨none, v, [], []⟩
    | _ => none
  | .alloc t =>
    match T t with
    | some ⟨_, _, z, _⟩ => some ⟨none, one (.ptr nm 0), [(nm, some ⟨t, z.length, nth z⟩)], []⟩
    | none => none
  | .box t x =>
    match ev fr x with
    | .e x => match cellsOf x with
      | some (n, f) => some ⟨none, one (.ptr nm 0), [(nm, some ⟨t, n, f⟩)], []⟩
      | none => none
    | _ => none
  | .build t parts =>
    match T t with
    | some ⟨.struct fs, _, z, _⟩ => bif fs.all (fun x => x.2.2.isSome) then
      match fillF (fun i => (fs[i]?).map fun x => (x.1, x.2.1)) z.length (nth z) (parts.toList.map fun p => (p.1, ev fr p.2)) with
      | some f => some ⟨none, .e (.agg z.length f), [], []⟩
      | none => none
      else none
    | some ⟨.arr _ _ es _, _, z, _⟩ => bif Nat.blt 0 es then
      match fillF (fun i => bif Nat.blt 0 es then some (i * es, es) else none) z.length (nth z) (parts.toList.map fun p => (p.1, ev fr p.2)) with
      | some f => some ⟨none, .e (.agg z.length f), [], []⟩
      | none => none
      else none
    | _ => none
  | .load t a =>
    match T t, ev fr a with
    | some ti, .e (.c (.ptr k off)) =>
      match hget H k with
      | some ⟨_, en, ef⟩ => loadF ti (en - off) (fun j => ef (off + j)) [k]
      | none => none
    | some ti, .e (.c (.rp m g)) => loadF ti m g []
    | _, _ => none
  | .store t a x =>
    match T t, ev fr a, ev fr x with
    | some ⟨_, tsz, _, _⟩, .e (.c (.ptr k off)), .e x =>
      match hget H k, cellsOf x with
      | some ⟨et, en, ef⟩, some (n, g) => bif Nat.beq n tsz then some ⟨some (off + n ≤ en), .top, [(k, some ⟨et, en, ovr ef off n g⟩)], [k]⟩ else none
      | _, _ => none
    | _, _, _ => none
  | .nilCheck x =>
    match ev fr x with
    | .e (.c (.ptr k off)) => some ⟨none, one (.ptr k off), [], []⟩
    | .e (.c (.rp m g)) => some ⟨none, one (.rp m g), [], []⟩
    | _ => none
  | .binOp op t x y _ =>
    match bin T op t (ev fr x) (ev fr y) with
    | some (p, v) => v.see fun v => some ⟨p, .e (.c v), [], []⟩
    | none => none
  | .unOp op _ x =>
    match op, ev fr x with
    | .not, .e (.c (.bool b)) => some ⟨none, one (.bool (!b)), [], []⟩
    | .neg, .e (.c (.int k n)) => some ⟨none, one (.int k (k.wrap (0 - n))), [], []⟩
    | .xor, .e (.c (.int k n)) => some ⟨none, one (.int k (bits .xor k (if k.signed then -1 else k.max) n)), [], []⟩
    | _, _ => none
  | .convert src dst x =>
    match T src, T dst, ev fr x with
    | some _, some ⟨.int k, _, _, _⟩, .e (.c (.int _ n)) => some ⟨none, one (.int k (k.wrap n)), [], []⟩
    | _, _, _ => none
  | .fieldAddr t x f =>
    match T t, ev fr x with
    | some ⟨.struct fs, _, _, _⟩, .e (.c (.ptr k off)) =>
      match fs[f]? with
      | some (o, s, _) => bif Nat.blt 0 s then some ⟨none, one (.ptr k (off + o)), [], []⟩ else none
      | none => none
    | some ⟨.struct fs, _, _, _⟩, .e (.c (.rp m g)) =>
      match fs[f]? with
      | some (o, s, _) => bif Nat.blt 0 s then some ⟨none, one (.rp (m - o) (fun j => g (o + j))), [], []⟩ else none
      | none => none
    | _, _ => none
  | .field t x f =>
    match T t, ev fr x with
    | some ⟨.struct fs, _, _, _⟩, .e (.agg n g) =>
      match fs[f]? with
      | some (o, s, some true) => bif Nat.blt 0 s then some ⟨some (o + s ≤ n), .e (.agg s (fun j => g (o + j))), [], []⟩ else none
      | some (o, s, some false) => (g o).see fun x => some ⟨some (o < n), .e (.c x), [], []⟩
      | _ => none
    | _, _ => none
  | .indexAddr t x ix =>
    match T t, ev fr x, ev fr ix with
    | some ⟨.slice _ es _, _, _, _⟩, .e (.c (.sl n sz f)), .e (.c (.int _ i)) => bif Nat.blt 0 es && Nat.beq sz es then some ⟨some (0 ≤ i ∧ i < n), one (.rp sz (f i.toNat)), [], []⟩ else none
    | some ⟨.arr n _ es _, _, _, _⟩, .e (.c (.ptr k off)), .e (.c (.int _ i)) => bif Nat.blt 0 es then some ⟨some (0 ≤ i ∧ i < n), one (.ptr k (off + i.toNat * es)), [], []⟩ else none
    | some ⟨.arr n _ es _, _, _, _⟩, .e (.c (.rp m g)), .e (.c (.int _ i)) => bif Nat.blt 0 es then some ⟨some (0 ≤ i ∧ i < n), one (.rp (m - i.toNat * es) (fun j => g (i.toNat * es + j))), [], []⟩ else none
    | _, _, _ => none
  | .index t x ix =>
    match T t, ev fr x, ev fr ix with
    | some ⟨.arr n _ es (some true), _, _, _⟩, .e (.agg m g), .e (.c (.int _ i)) => bif Nat.blt 0 es then some ⟨some (0 ≤ i ∧ i < n ∧ (i.toNat + 1) * es ≤ m), .e (.agg es (fun j => g (i.toNat * es + j))), [], []⟩ else none
    | some ⟨.arr n _ es (some false), _, _, _⟩, .e (.agg m g), .e (.c (.int _ i)) => bif Nat.blt 0 es then (g (i.toNat * es)).see fun x => some ⟨some (0 ≤ i ∧ i < n ∧ i.toNat * es < m), .e (.c x), [], []⟩ else none
    | _, _, _ => none
  | .extract x ix =>
    match ev fr x with
    | .tup l => match l[ix]? with
      | some y => y.see fun y => some ⟨none, .e y, [], []⟩
      | none => none
    | _ => none
  | .slice t x lo hi none =>
    match T t, ev fr x with
    | some ⟨.slice _ es true, _, _, _⟩, .e (.c (.sl n sz f)) =>
      match lo.map (ev fr), hi.map (ev fr) with
      | none, none => some ⟨none, one (.sl n sz f), [], []⟩
      | some (.e (.c (.int _ l))), none => bif Nat.beq sz es then some ⟨some (0 ≤ l ∧ l ≤ n), one (.sl (n - l.toNat) sz (fun i => f (l.toNat + i))), [], []⟩ else none
      | none, some (.e (.c (.int _ h))) => some ⟨some (0 ≤ h ∧ h ≤ n), one (.sl h.toNat sz f), [], []⟩
      | some (.e (.c (.int _ l))), some (.e (.c (.int _ h))) => bif Nat.beq sz es then some ⟨some (0 ≤ l ∧ l ≤ h ∧ h ≤ n), one (.sl (h.toNat - l.toNat) sz (fun i => f (l.toNat + i))), [], []⟩ else none
      | _, _ => none
    | _, _ => none
  | .call { callee := .builtin b, args, argTypes } => callB T b argTypes (args.toList.map (ev fr))
  | .call { callee := .value (.func f), args, .. } => C f (args.toList.map (ev fr)) H nm
  | _ => none
end Go.Proofs.Ytolliidpmgncdaa.AX
