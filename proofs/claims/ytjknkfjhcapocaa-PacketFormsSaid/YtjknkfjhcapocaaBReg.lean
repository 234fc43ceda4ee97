/- A region: its abstract run in the order of the text, and that every allowed order comes to the same. -/
import Derived.Test.YtjknkfjhcapocaaBSel
namespace Go.Proofs.Ytjknkfjhcapocaa.AX
open Go.RowKit
set_option linter.unusedVariables false
set_option linter.unusedSimpArgs false

def tmpsOf (o : Op) : List Nat := o.operands.toList.filterMap fun | .tmp t => some t | _ => none

theorem ev_congr {fr fr' : Fr} {o : Op} (h : ∀ t ∈ tmpsOf o, fget fr t = fget fr' t) {x : Operand} (hx : x ∈ o.operands) : ev fr x = ev fr' x := by
  cases x with
  | tmp t => exact h t (List.mem_filterMap.2 ⟨.tmp t, by simpa using hx, rfl⟩)
  | const v => rfl
  | global g => rfl
  | func f => rfl

theorem loadF_rd {ti : TI} {m : Nat} {g : Nat → CV} {lit : Bool} {q : Option Prop} {rd : List Nat} {sr : SR} (h : loadF ti m g lit q rd = some sr) : sr.rd = rd := by
  unfold loadF at h
  split at h
  · injection h with h; subst h; rfl
  · injection h with h; subst h; rfl
  · rw [CV.see_eq] at h; injection h with h; subst h; rfl
theorem cond_some {α : Type} {c : Bool} {a b : α} (h : (bif c then some a else none) = some b) : c = true ∧ a = b := by
  cases c with
  | true => exact ⟨rfl, by injection h⟩
  | false => cases h
theorem srcOf_congr {H H' : Hp} {sz : Nat} {x : FV} {s : Src} (h : srcOf H sz x = some s) (hh : ∀ k ∈ s.rd, hget H k = hget H' k) : srcOf H' sz x = some s := by
  unfold srcOf at h ⊢
  split at h
  · exact h
  · exact h
  · rename_i nm i n
    try simp only
    split at h
    · rename_i et en es ev f he
      cases hb : Nat.beq es sz with
      | false => rw [hb] at h; cases h
      | true =>
        rw [hb, cond_true] at h
        injection h with h; subst h
        rw [← hh nm (List.mem_singleton.2 rfl), he]
        simp only [hb, cond_true]
    · cases h
  · rename_i nm i j n s'
    try simp only
    split at h
    · rename_i et en es ev f he
      cases hb : Nat.beq s' sz with
      | false => rw [hb] at h; cases h
      | true =>
        rw [hb, cond_true] at h
        injection h with h; subst h
        rw [← hh nm (List.mem_singleton.2 rfl), he]
        simp only [hb, cond_true]
    · cases h
  · cases h
theorem callB_congr {T : Tys} {b : Builtin} {ts : Array TypeId} {args : List FV} {H H' : Hp} {nm : Nat} {sr : SR} (h : callB T b ts args H nm = some sr) (hh : ∀ k ∈ sr.rd, hget H k = hget H' k) : callB T b ts args H' nm = some sr := by
  unfold callB at h ⊢
  split at h
  · exact h
  · exact h
  · exact h
  · rename_i x y
    try simp only
    split at h
    · rename_i t t' hts
      try simp only [hts]
      cases hbt : Nat.beq t t' with
      | false => rw [hbt] at h; cases h
      | true =>
        rw [hbt, cond_true] at h
        rw [cond_true]
        split at h
        · rename_i e es s0 z0 eq0 by0 hTt
          try simp only
          split at h
          · rename_i d1 s1 z eq1 bytes m g p rd hTe hsrc
            have hrd : ∀ k ∈ rd, k ∈ sr.rd := by
              cases hbz : Nat.beq z.length es with
              | false => rw [hbz] at h; cases h
              | true =>
                rw [hbz, cond_true] at h
                split at h
                · injection h with h; subst h; exact fun k hk => hk
                · split at h
                  · obtain ⟨_, h⟩ := cond_some h
                    subst h; exact fun k hk => List.mem_cons_of_mem _ hk
                  · cases h
                · cases h
            cases hb0 : Nat.blt 0 es with
            | false => rw [hb0] at hsrc; cases hsrc
            | true =>
              rw [hb0, cond_true] at hsrc
              rw [cond_true, srcOf_congr hsrc (fun k hk => hh k (hrd k hk)), hTe]
              try simp only
              cases hbz : Nat.beq z.length es with
              | false => rw [hbz] at h; cases h
              | true =>
                rw [hbz, cond_true] at h
                rw [cond_true]
                split at h
                · exact h
                · rename_i k i n
                  try simp only
                  split at h
                  · rename_i et en esz f he
                    cases hbc : (Nat.beq i 0 && Nat.beq esz es && Nat.beq et e) with
                    | false => rw [hbc] at h; cases h
                    | true =>
                      rw [hbc, cond_true] at h
                      injection h with h; subst h
                      rw [← hh k (List.mem_cons_self ..), he]
                      simp only [hbc, cond_true]
                  · cases h
                · cases h
          · cases h
        · cases h
    · cases h
  · rename_i x y
    try simp only
    split at h
    · rename_i t ht
      try simp only
      split at h
      · rename_i e es s0 z0 eq0 by0 hTt
        try simp only
        split at h
        · rename_i m g p rd hsrc
          have hrd : ∀ k ∈ rd, k ∈ sr.rd := by
            split at h
            · split at h
              · obtain ⟨_, h⟩ := cond_some h
                subst h; exact fun k hk => List.mem_cons_of_mem _ hk
              · cases h
            · split at h
              · obtain ⟨_, h⟩ := cond_some h
                subst h; exact fun k hk => List.mem_cons_of_mem _ hk
              · cases h
            · cases h
          cases hb0 : Nat.blt 0 es with
          | false => rw [hb0] at hsrc; cases hsrc
          | true =>
            rw [hb0, cond_true] at hsrc
            rw [cond_true, srcOf_congr hsrc (fun k hk => hh k (hrd k hk))]
            try simp only
            split at h
            · rename_i k i n
              try simp only
              split at h
              · rename_i et en esz f he
                cases hbc : Nat.beq esz es with
                | false => rw [hbc] at h; cases h
                | true =>
                  rw [hbc, cond_true] at h
                  injection h with h; subst h
                  rw [← hh k (List.mem_cons_self ..), he]
                  simp only [hbc, cond_true]
              · cases h
            · rename_i k i j n s
              try simp only
              split at h
              · rename_i et en esz v f he
                cases hbc : Nat.beq s es with
                | false => rw [hbc] at h; cases h
                | true =>
                  rw [hbc, cond_true] at h
                  injection h with h; subst h
                  rw [← hh k (List.mem_cons_self ..), he]
                  simp only [hbc, cond_true]
              · cases h
            · cases h
        · cases h
      · cases h
    · cases h
  · cases h
theorem sliceF_congr {T : Tys} {t : TypeId} {x : FV} {lo hi : Option FV} {H H' : Hp} {sr : SR} (h : sliceF T H t x lo hi = some sr) (hh : ∀ k ∈ sr.rd, hget H k = hget H' k) : sliceF T H' t x lo hi = some sr := by
  unfold sliceF at h ⊢
  split at h
  · exact h
  · rename_i e es s0 z0 eq0 by0 k i n ht
    try simp only
    split at h
    · rename_i p l q hb
      try simp only
      split at h
      · rename_i et en esz ev0 ef he
        cases hb0 : Nat.beq esz es with
        | false => rw [hb0] at h; cases h
        | true =>
          rw [hb0, cond_true] at h
          injection h with h; subst h
          rw [← hh k (List.mem_singleton.2 rfl), he]
          simp only [hb0, cond_true]
      · cases h
    · cases h
  · exact h
  · exact h
  · exact h
  · cases h

theorem stepF_congr {T : Tys} {o : Op} {fr fr' : Fr} {H H' : Hp} {nm : Nat} {sr : SR} (h : stepF T o fr H nm = some sr) (hf : ∀ t ∈ tmpsOf o, fget fr t = fget fr' t) (hh : ∀ k ∈ sr.rd, hget H k = hget H' k) :
    stepF T o fr' H' nm = some sr := by
  have E : ∀ x, x ∈ o.operands → ev fr x = ev fr' x := fun x hx => ev_congr hf hx
  cases o
  case load t x =>
    have e1 := E x (by simp [Op.operands])
    simp only [stepF] at h ⊢
    rw [← e1]
    split at h
    · rename_i ti k i j sym h1 h2
      split at h
      · rename_i et en es v ef he
        have := hh k (by rw [loadF_rd h]; exact List.mem_singleton.2 rfl)
        rw [← this, he]
        exact h
      · cases h
    · exact h
    · cases h
  case store t x y =>
    have e1 := E x (by simp [Op.operands])
    have e2 := E y (by simp [Op.operands])
    simp only [stepF] at h ⊢
    rw [← e1, ← e2]
    split at h
    · rename_i d0 tsz z0 eq0 by0 k i j sym z h1 h2 h3
      split at h
      · rename_i et en es v ef n g he hc
        cases hb0 : Nat.beq n tsz with
        | false => rw [hb0] at h; cases h
        | true =>
          rw [hb0, cond_true] at h
          injection h with h
          subst h
          have := hh k (List.mem_singleton.2 rfl)
          rw [← this, he, hc]
          simp only [hb0, cond_true]
      · cases h
    · cases h
  case call c =>
    obtain ⟨callee, args, ts⟩ := c
    have hm : args.toList.map (ev fr) = args.toList.map (ev fr') := List.map_congr_left fun x hx => E x (by simp [Op.operands, Call.operands]; exact .inr (by simpa using hx))
    cases callee with
    | builtin b => simp only [stepF] at h ⊢; rw [← hm]; exact callB_congr h hh
    | invoke x m => simp only [stepF, reduceCtorEq] at h
    | value f => simp only [stepF, reduceCtorEq] at h
  case build t ps =>
    have hm : (ps.toList.map fun p => (p.1, ev fr p.2)) = ps.toList.map fun p => (p.1, ev fr' p.2) := List.map_congr_left fun p hp => by
      rw [E p.2 (by simp [Op.operands]; exact ⟨p.1, by simpa using hp⟩)]
    simp only [stepF] at h ⊢
    rw [← hm]
    exact h
  case buildSlice t len ps =>
    have hm : (ps.toList.map fun p => (p.1, ev fr p.2)) = ps.toList.map fun p => (p.1, ev fr' p.2) := List.map_congr_left fun p hp => by
      rw [E p.2 (by simp [Op.operands]; exact ⟨p.1, by simpa using hp⟩)]
    simp only [stepF] at h ⊢
    rw [← hm]
    exact h
  case makeFunc fn first captured =>
    have h1 : first.toList.map (ev fr) = first.toList.map (ev fr') := List.map_congr_left fun x hx => E x (by simp [Op.operands]; exact .inl (by simpa using hx))
    have h2 : captured.toList.map (ev fr) = captured.toList.map (ev fr') := List.map_congr_left fun x hx => E x (by simp [Op.operands]; exact .inr (by simpa using hx))
    cases fn with
    | func f => simp only [stepF] at h ⊢; rw [← h1, ← h2]; exact h
    | method n => simp only [stepF, reduceCtorEq] at h
    | methodOf t n => simp only [stepF, reduceCtorEq] at h
    | via t p f b => simp only [stepF, reduceCtorEq] at h
    | yield l => simp only [stepF, reduceCtorEq] at h
  case slice t x lo hi mx =>
    have e1 := E x (by simp [Op.operands])
    have e2 : lo.map (ev fr) = lo.map (ev fr') := by
      cases lo with
      | none => rfl
      | some y => simp only [Option.map_some, E y (by simp [Op.operands])]
    have e3 : hi.map (ev fr) = hi.map (ev fr') := by
      cases hi with
      | none => rfl
      | some y => simp only [Option.map_some, E y (by simp [Op.operands])]
    cases mx with
    | some m => simp only [stepF, reduceCtorEq] at h
    | none =>
      simp only [stepF] at h ⊢
      rw [← e1, ← e2, ← e3]
      exact sliceF_congr h hh
  case indexAddr t x y =>
    simp only [stepF] at h ⊢
    rw [← E x (by simp [Op.operands]), ← E y (by simp [Op.operands])]
    split at h
    · exact h
    · rename_i e es eb sz0 z eq0 by0 k b n kk i ht hxe hie
      split at h
      · rename_i et en esz ev0 ef he
        cases hb0 : (Nat.blt 0 es && Nat.beq esz es) with
        | false => rw [hb0] at h; cases h
        | true =>
          rw [hb0, cond_true] at h
          injection h with h; subst h
          rw [← hh k (List.mem_singleton.2 rfl), he]
          simp only [hb0, cond_true]
      · cases h
    · exact h
    · exact h
    · exact h
    · cases h
  case pick c x y => simp only [stepF] at h ⊢; rw [← E c (by simp [Op.operands]), ← E x (by simp [Op.operands]), ← E y (by simp [Op.operands])]; exact h
  case binOp op t x y ty => simp only [stepF] at h ⊢; rw [← E x (by simp [Op.operands]), ← E y (by simp [Op.operands])]; exact h
  case makeSlice t x y => simp only [stepF] at h ⊢; rw [← E x (by simp [Op.operands]), ← E y (by simp [Op.operands])]; exact h
  case index t x y => simp only [stepF] at h ⊢; rw [← E x (by simp [Op.operands]), ← E y (by simp [Op.operands])]; exact h
  case move x => simp only [stepF] at h ⊢; rw [← E x (by simp [Op.operands])]; exact h
  case assign x => simp only [stepF] at h ⊢; rw [← E x (by simp [Op.operands])]; exact h
  case alloc t => simp only [stepF] at h ⊢; exact h
  case box t x => simp only [stepF] at h ⊢; rw [← E x (by simp [Op.operands])]; exact h
  case nilCheck x => simp only [stepF] at h ⊢; rw [← E x (by simp [Op.operands])]; exact h
  case unOp op t x => simp only [stepF] at h ⊢; rw [← E x (by simp [Op.operands])]; exact h
  case convert s d x => simp only [stepF] at h ⊢; rw [← E x (by simp [Op.operands])]; exact h
  case fieldAddr t x f => simp only [stepF] at h ⊢; rw [← E x (by simp [Op.operands])]; exact h
  case field t x f => simp only [stepF] at h ⊢; rw [← E x (by simp [Op.operands])]; exact h
  case extract x i => simp only [stepF] at h ⊢; rw [← E x (by simp [Op.operands])]; exact h
  all_goals simp only [stepF, reduceCtorEq] at h

theorem callOf_congr {o : Op} {fr fr' : Fr} (hf : ∀ t ∈ tmpsOf o, fget fr t = fget fr' t) : callOf o fr' = callOf o fr := by
  have E : ∀ x, x ∈ o.operands → ev fr x = ev fr' x := fun x hx => ev_congr hf hx
  cases o
  case call c =>
    obtain ⟨callee, args, ts⟩ := c
    have hm : args.toList.map (ev fr) = args.toList.map (ev fr') := List.map_congr_left fun x hx => E x (by simp [Op.operands, Call.operands]; exact .inr (by simpa using hx))
    cases callee with
    | builtin b => rfl
    | invoke x m => rfl
    | value f =>
      have e1 := E f (by simp [Op.operands, Call.operands])
      simp only [callOf]
      rw [← hm, ← e1]
  all_goals rfl
theorem stp_congr {P : Program} {T : Tys} {o : Op} {fr fr' : Fr} {H H' : Hp} {nm wd : Nat} {sr : SR} (h : Stp P T o fr H nm wd sr) (hf : ∀ t ∈ tmpsOf o, fget fr t = fget fr' t) (hh : ∀ k ∈ sr.rd, hget H k = hget H' k) (hall : ALLN ∉ sr.rd) : Stp P T o fr' H' nm wd sr := by
  rcases h with ⟨h1, h2⟩ | ⟨f, args, h1, h2, h3⟩
  · exact .inl ⟨stepF_congr h1 hf hh, h2⟩
  · exact .inr ⟨f, args, (callOf_congr hf).trans h1, h2, fun H2 hH2 cx r w vals g1 g2 _ g3 => h3 H2 (fun k hk => (hh k hk).trans (hH2 k hk)) cx r w vals g1 g2 (fun h => absurd h hall) g3⟩

/-! ### The run -/
def putD (d : Option Tmp) (v : FV) : Fr :=
  match d with
  | some t => [(t, v)]
  | none => []
def keysOf (e : Hp) : List Nat := e.map (·.1)
def guardT (all : List Oper) (j : Nat) : Option Nat := (all[j]?).bind (·.dst)
def wants (all : List Oper) (o : Oper) (fr : Fr) : Option Bool :=
  match o.guard with
  | none => some true
  | some (j, want) =>
    match guardT all j with
    | some t => match fget fr t with
      | .e (.c (.bool b)) => some (bif want then b else !b)
      | .tup [] => some false
      | _ => none
    | none => none
def isG (all : List Oper) (i : Nat) : Bool := all.any fun o => match o.guard with | some (j, _) => Nat.beq j i | none => false
def okDst (nt : Nat) : Option Tmp → Bool
  | some t => Nat.blt t nt
  | none => true

abbrev Log := List (List Nat × List Nat)
/-- What is known of a call's outcome: a quantifier over its value, what it does to owned blocks, and which it looks at. -/
abbrev Qf := (FV → Hp → List Nat → Prop) → Prop
abbrev Qs := FuncId → List FV → Hp → Nat → Nat → Option Qf
def QsOk (P : Program) (Q : Qs) : Prop := ∀ f args H nm wd q, 0 < wd → Q f args H nm wd = some q → ∀ K, q K → ∃ v e rd, CallR P f args H nm wd ⟨none, v, e, rd⟩ ∧ K v e rd
def QsMono (Q : Qs) : Prop := ∀ f args H nm wd q, Q f args H nm wd = some q → ∀ K K' : FV → Hp → List Nat → Prop, (∀ v e rd, K v e rd → K' v e rd) → q K → q K'

def runR (T : Tys) (Q : Qs) (wd nt : Nat) (all : List Oper) : List Oper → Nat → Fr → Hp → Nat → Log → (Fr → Hp → Nat → Log → Prop) → Prop
  | [], _, fr, H, nx, log, K => K fr H nx log
  | o :: rest, i, fr, H, nx, log, K =>
    bif okDst nt o.dst then
      match wants all o fr with
      | some true =>
        match callOf o.op fr with
        | some (f, args) =>
          match Q f args H nx wd, isG all i with
          | some q, false => q fun v e rd => runR T Q wd nt all rest (i + 1) (putD o.dst v ++ fr) (e ++ H) (nx + wd) ((keysOf e, rd) :: log) K
          | _, _ => False
        | none =>
          match stepF T o.op fr H nx with
          | some ⟨pre, val, eff, rd⟩ =>
            match pre, isG all i, val with
            | none, false, v => runR T Q wd nt all rest (i + 1) (putD o.dst v ++ fr) (eff ++ H) (nx + wd) ((keysOf eff, rd) :: log) K
            | some p, false, v => p ∧ runR T Q wd nt all rest (i + 1) (putD o.dst v ++ fr) (eff ++ H) (nx + wd) ((keysOf eff, rd) :: log) K
            | none, true, .e (.c (.bool b)) => (b = true → runR T Q wd nt all rest (i + 1) (putD o.dst (.e (.c (.bool true))) ++ fr) (eff ++ H) (nx + wd) ((keysOf eff, rd) :: log) K) ∧ (b = false → runR T Q wd nt all rest (i + 1) (putD o.dst (.e (.c (.bool false))) ++ fr) (eff ++ H) (nx + wd) ((keysOf eff, rd) :: log) K)
            | some p, true, .e (.c (.bool b)) => p ∧ (b = true → runR T Q wd nt all rest (i + 1) (putD o.dst (.e (.c (.bool true))) ++ fr) (eff ++ H) (nx + wd) ((keysOf eff, rd) :: log) K) ∧ (b = false → runR T Q wd nt all rest (i + 1) (putD o.dst (.e (.c (.bool false))) ++ fr) (eff ++ H) (nx + wd) ((keysOf eff, rd) :: log) K)
            | _, _, _ => False
          | none => False
      | some false => runR T Q wd nt all rest (i + 1) (putD o.dst (.tup []) ++ fr) H (nx + wd) (([], []) :: log) K
      | none => False
    else False

/-- What became of one operation. -/
structure Rec where
  ex : Bool
  val : FV
  eff : Hp
  rd : List Nat

def GoodAt (P : Program) (T : Tys) (wd nt : Nat) (all : List Oper) (o : Oper) (rc : Rec) (fr : Fr) (H : Hp) (nm : Nat) : Prop :=
  okDst nt o.dst = true ∧ wants all o fr = some rc.ex ∧
  match rc.ex with
  | true => ∃ sr, Stp P T o.op fr H nm wd sr ∧ sr.val = rc.val ∧ sr.eff = rc.eff ∧ sr.rd = rc.rd
  | false => rc.val = .tup [] ∧ rc.eff = [] ∧ rc.rd = []

def Good (P : Program) (T : Tys) (wd nt : Nat) (all : List Oper) : List Oper → List Rec → Fr → Hp → Nat → Prop
  | [], [], _, _, _ => True
  | o :: os, rc :: rs, fr, H, nx => GoodAt P T wd nt all o rc fr H nx ∧ Good P T wd nt all os rs (putD o.dst rc.val ++ fr) (rc.eff ++ H) (nx + wd)
  | _, _, _, _, _ => False

def frEs (os : List Oper) (rs : List Rec) : List Fr := List.zipWith (fun o rc => putD o.dst rc.val) os rs
def hpEs (rs : List Rec) : List Hp := rs.map (·.eff)
def logOf (rs : List Rec) : Log := rs.map fun rc => (keysOf rc.eff, rc.rd)
theorem selS {α : Type} : ∀ (es : List (List (Nat × α))) (k k' : Nat) (b : List (Nat × α)), sel (fun _ => true) es k b = sel (fun _ => true) es k' b := by
  intro es
  induction es with
  | nil => intro k k' b; rfl
  | cons e es ih => intro k k' b; rw [sel, sel]; exact ih _ _ _

theorem runR_good {P : Program} {T : Tys} {Q : Qs} {wd nt : Nat} (hwd : 0 < wd) (hQ : QsOk P Q) {all : List Oper} : ∀ (os : List Oper) (i : Nat) (fr : Fr) (H : Hp) (nx : Nat) (log : Log) (K : Fr → Hp → Nat → Log → Prop), runR T Q wd nt all os i fr H nx log K →
    ∃ rs, Good P T wd nt all os rs fr H nx ∧ K (sel (fun _ => true) (frEs os rs) 0 fr) (sel (fun _ => true) (hpEs rs) 0 H) (nx + wd * os.length) ((logOf rs).reverse ++ log) := by
  intro os
  induction os with
  | nil => intro i fr H nx log K h; exact ⟨[], trivial, h⟩
  | cons o os ih =>
    intro i fr H nx log K h
    have fin : ∀ (rc : Rec), GoodAt P T wd nt all o rc fr H nx → runR T Q wd nt all os (i + 1) (putD o.dst rc.val ++ fr) (rc.eff ++ H) (nx + wd) ((keysOf rc.eff, rc.rd) :: log) K →
        ∃ rs, Good P T wd nt all (o :: os) rs fr H nx ∧ K (sel (fun _ => true) (frEs (o :: os) rs) 0 fr) (sel (fun _ => true) (hpEs rs) 0 H) (nx + wd * (o :: os).length) ((logOf rs).reverse ++ log) := by
      intro rc hg hr
      obtain ⟨rs, h1, h2⟩ := ih _ _ _ _ _ _ hr
      refine ⟨rc :: rs, ⟨hg, h1⟩, ?_⟩
      have e1 : sel (fun _ => true) (frEs (o :: os) (rc :: rs)) 0 fr = sel (fun _ => true) (frEs os rs) 0 (putD o.dst rc.val ++ fr) := by
        show sel _ (putD o.dst rc.val :: frEs os rs) 0 fr = _
        rw [sel, cond_true]; exact selS _ _ _ _
      have e2 : sel (fun _ => true) (hpEs (rc :: rs)) 0 H = sel (fun _ => true) (hpEs rs) 0 (rc.eff ++ H) := by
        show sel _ (rc.eff :: hpEs rs) 0 H = _
        rw [sel, cond_true]; exact selS _ _ _ _
      rw [e1, e2, List.length_cons, show nx + wd * (os.length + 1) = nx + wd + wd * os.length by rw [Nat.mul_add, Nat.mul_one]; omega]
      have e3 : (logOf (rc :: rs)).reverse ++ log = (logOf rs).reverse ++ ((keysOf rc.eff, rc.rd) :: log) := by simp [logOf]
      rw [e3]
      exact h2
    unfold runR at h
    cases hd : okDst nt o.dst with
    | false => rw [hd] at h; exact h.elim
    | true =>
      rw [hd, cond_true] at h
      split at h
      · rename_i hw
        split at h
        · rename_i f args hc
          split at h
          · rename_i q hq hG
            obtain ⟨v, e, rd, hr, hk⟩ := hQ _ _ _ _ _ _ hwd hq _ h
            exact fin ⟨true, v, e, rd⟩ ⟨hd, hw, _, .inr ⟨f, args, hc, hr⟩, rfl, rfl, rfl⟩ hk
          · exact h.elim
        · split at h
          · rename_i pre val eff rd hs
            split at h
            · exact fin ⟨true, _, eff, rd⟩ ⟨hd, hw, _, .inl ⟨hs, trivial⟩, rfl, rfl, rfl⟩ h
            · exact fin ⟨true, _, eff, rd⟩ ⟨hd, hw, _, .inl ⟨hs, h.1⟩, rfl, rfl, rfl⟩ h.2
            · rename_i b hG
              rcases Bool.eq_false_or_eq_true b with hb | hb
              · subst hb; exact fin ⟨true, _, eff, rd⟩ ⟨hd, hw, _, .inl ⟨hs, trivial⟩, rfl, rfl, rfl⟩ (h.1 rfl)
              · subst hb; exact fin ⟨true, _, eff, rd⟩ ⟨hd, hw, _, .inl ⟨hs, trivial⟩, rfl, rfl, rfl⟩ (h.2 rfl)
            · rename_i p b hG
              rcases Bool.eq_false_or_eq_true b with hb | hb
              · subst hb; exact fin ⟨true, _, eff, rd⟩ ⟨hd, hw, _, .inl ⟨hs, h.1⟩, rfl, rfl, rfl⟩ (h.2.1 rfl)
              · subst hb; exact fin ⟨true, _, eff, rd⟩ ⟨hd, hw, _, .inl ⟨hs, h.1⟩, rfl, rfl, rfl⟩ (h.2.2 rfl)
            · exact h.elim
          · exact h.elim
      · rename_i hw
        exact fin ⟨false, .tup [], [], []⟩ ⟨hd, hw, rfl, rfl, rfl⟩ h
      · exact h.elim

theorem Good.at {P : Program} {T : Tys} {wd nt : Nat} {all : List Oper} : ∀ (os : List Oper) (rs : List Rec) (fr : Fr) (H : Hp) (nx : Nat), Good P T wd nt all os rs fr H nx → os.length = rs.length ∧
    ∀ (i : Nat) o, os[i]? = some o → ∃ rc, rs[i]? = some rc ∧ GoodAt P T wd nt all o rc (sel (fun _ => true) ((frEs os rs).take i) 0 fr) (sel (fun _ => true) ((hpEs rs).take i) 0 H) (nx + wd * i) := by
  intro os
  induction os with
  | nil =>
    intro rs fr H nx h
    cases rs with
    | nil => exact ⟨rfl, fun i o h => by cases i <;> cases h⟩
    | cons => exact h.elim
  | cons o os ih =>
    intro rs fr H nx h
    cases rs with
    | nil => exact h.elim
    | cons rc rs =>
      obtain ⟨hg, hr⟩ := h
      obtain ⟨hl, hi⟩ := ih _ _ _ _ hr
      refine ⟨by simp [hl], fun i o' ho => ?_⟩
      cases i with
      | zero =>
        simp only [List.getElem?_cons_zero, Option.some.injEq] at ho
        subst ho
        exact ⟨rc, rfl, hg⟩
      | succ i =>
        obtain ⟨rc', h1, h2⟩ := hi i o' (by simpa using ho)
        refine ⟨rc', by simpa using h1, ?_⟩
        have e1 : sel (fun _ => true) ((frEs (o :: os) (rc :: rs)).take (i + 1)) 0 fr = sel (fun _ => true) ((frEs os rs).take i) 0 (putD o.dst rc.val ++ fr) := by
          show sel _ ((putD o.dst rc.val :: frEs os rs).take (i + 1)) 0 fr = _
          rw [List.take_succ_cons, sel, cond_true]; exact selS _ _ _ _
        have e2 : sel (fun _ => true) ((hpEs (rc :: rs)).take (i + 1)) 0 H = sel (fun _ => true) ((hpEs rs).take i) 0 (rc.eff ++ H) := by
          show sel _ ((rc.eff :: hpEs rs).take (i + 1)) 0 H = _
          rw [List.take_succ_cons, sel, cond_true]; exact selS _ _ _ _
        rw [e1, e2, show nx + wd * (i + 1) = nx + wd + wd * i by rw [Nat.mul_add, Nat.mul_one]; omega]
        exact h2
end Go.Proofs.Ytjknkfjhcapocaa.AX
