/- A region: its abstract run in the order of the text, and that every allowed order comes to the same. -/
import Derived.Test.YtolliidpmgncdaaAxSel
namespace Go.Proofs.Ytolliidpmgncdaa.AX
open Go.RowKit
set_option linter.unusedVariables false
set_option linter.unusedSimpArgs false

/-- A contract's step looks at no other block than those that it names. -/
def CsLocal (C : Cs) : Prop := ∀ f args H H' nm sr, C f args H nm = some sr → (∀ k ∈ sr.rd, hget H k = hget H' k) → C f args H' nm = some sr

def tmpsOf (o : Op) : List Nat := o.operands.toList.filterMap fun | .tmp t => some t | _ => none

theorem ev_congr {fr fr' : Fr} {o : Op} (h : ∀ t ∈ tmpsOf o, fget fr t = fget fr' t) {x : Operand} (hx : x ∈ o.operands) : ev fr x = ev fr' x := by
  cases x with
  | tmp t => exact h t (List.mem_filterMap.2 ⟨.tmp t, by simpa using hx, rfl⟩)
  | const v => rfl
  | global g => rfl
  | func f => rfl

theorem loadF_rd {ti : TI} {m : Nat} {g : Nat → CV} {rd : List Nat} {sr : SR} (h : loadF ti m g rd = some sr) : sr.rd = rd := by
  unfold loadF at h
  split at h
  · injection h with h; subst h; rfl
  · injection h with h; subst h; rfl
  · rw [CV.see_eq] at h; injection h with h; subst h; rfl

theorem stepF_congr {T : Tys} {C : Cs} (hL : CsLocal C) {o : Op} {fr fr' : Fr} {H H' : Hp} {nm : Nat} {sr : SR} (h : stepF T C o fr H nm = some sr) (hf : ∀ t ∈ tmpsOf o, fget fr t = fget fr' t) (hh : ∀ k ∈ sr.rd, hget H k = hget H' k) :
    stepF T C o fr' H' nm = some sr := by
  have E : ∀ x, x ∈ o.operands → ev fr x = ev fr' x := fun x hx => ev_congr hf hx
  cases o
  case load t x =>
    have e1 := E x (by simp [Op.operands])
    simp only [stepF] at h ⊢
    rw [← e1]
    split at h
    · rename_i ti k off h1 h2
      split at h
      · rename_i et en ef he
        have := hh k (by rw [loadF_rd h]; exact List.mem_singleton.2 rfl)
        rw [← this, he]
        exact h
      · cases h
    · rename_i ti m g h1 h2
      exact h
    · cases h
  case store t x y =>
    have e1 := E x (by simp [Op.operands])
    have e2 := E y (by simp [Op.operands])
    simp only [stepF] at h ⊢
    rw [← e1, ← e2]
    split at h
    · rename_i d0 tsz z0 eq0 k off z h1 h2 h3
      split at h
      · rename_i et en ef n g he hc
        cases hb0 : Nat.beq n tsz with
        | false => rw [hb0] at h; cases h
        | true =>
          rw [hb0, cond_true] at h
          injection h with h
          subst h
          have := hh k (List.mem_singleton.2 rfl)
          rw [← this, he, hc]
          simp only [hb0, cond_true]
      · cases h
    · cases h
  case call c =>
    obtain ⟨callee, args, ts⟩ := c
    have hm : args.toList.map (ev fr) = args.toList.map (ev fr') := List.map_congr_left fun x hx => E x (by simp [Op.operands, Call.operands]; exact .inr (by simpa using hx))
    cases callee with
    | builtin b => simp only [stepF] at h ⊢; rw [← hm]; exact h
    | invoke x m => simp only [stepF, reduceCtorEq] at h
    | value f =>
      cases f with
      | func f => simp only [stepF] at h ⊢; rw [← hm]; exact hL _ _ _ _ _ _ h hh
      | tmp t => simp only [stepF, reduceCtorEq] at h
      | const v => simp only [stepF, reduceCtorEq] at h
      | global g => simp only [stepF, reduceCtorEq] at h
  case build t ps =>
    have hm : (ps.toList.map fun p => (p.1, ev fr p.2)) = ps.toList.map fun p => (p.1, ev fr' p.2) := List.map_congr_left fun p hp => by
      rw [E p.2 (by simp [Op.operands]; exact ⟨p.1, by simpa using hp⟩)]
    simp only [stepF] at h ⊢
    rw [← hm]
    exact h
  case slice t x lo hi mx =>
    have e1 := E x (by simp [Op.operands])
    have e2 : lo.map (ev fr) = lo.map (ev fr') := by
      cases lo with
      | none => rfl
      | some y => simp only [Option.map_some, E y (by simp [Op.operands])]
    have e3 : hi.map (ev fr) = hi.map (ev fr') := by
      cases hi with
      | none => rfl
      | some y => simp only [Option.map_some, E y (by simp [Op.operands])]
    cases mx with
    | some m => simp only [stepF, reduceCtorEq] at h
    | none =>
      simp only [stepF] at h ⊢
      rw [← e1, ← e2, ← e3]
      exact h
  case pick c x y => simp only [stepF] at h ⊢; rw [← E c (by simp [Op.operands]), ← E x (by simp [Op.operands]), ← E y (by simp [Op.operands])]; exact h
  case binOp op t x y ty => simp only [stepF] at h ⊢; rw [← E x (by simp [Op.operands]), ← E y (by simp [Op.operands])]; exact h
  case indexAddr t x y => simp only [stepF] at h ⊢; rw [← E x (by simp [Op.operands]), ← E y (by simp [Op.operands])]; exact h
  case index t x y => simp only [stepF] at h ⊢; rw [← E x (by simp [Op.operands]), ← E y (by simp [Op.operands])]; exact h
  case move x => simp only [stepF] at h ⊢; rw [← E x (by simp [Op.operands])]; exact h
  case assign x => simp only [stepF] at h ⊢; rw [← E x (by simp [Op.operands])]; exact h
  case alloc t => simp only [stepF] at h ⊢; exact h
  case box t x => simp only [stepF] at h ⊢; rw [← E x (by simp [Op.operands])]; exact h
  case nilCheck x => simp only [stepF] at h ⊢; rw [← E x (by simp [Op.operands])]; exact h
  case unOp op t x => simp only [stepF] at h ⊢; rw [← E x (by simp [Op.operands])]; exact h
  case convert s d x => simp only [stepF] at h ⊢; rw [← E x (by simp [Op.operands])]; exact h
  case fieldAddr t x f => simp only [stepF] at h ⊢; rw [← E x (by simp [Op.operands])]; exact h
  case field t x f => simp only [stepF] at h ⊢; rw [← E x (by simp [Op.operands])]; exact h
  case extract x i => simp only [stepF] at h ⊢; rw [← E x (by simp [Op.operands])]; exact h
  all_goals simp only [stepF, reduceCtorEq] at h

/-! ### The run -/
def putD (d : Option Tmp) (v : FV) : Fr :=
  match d with
  | some t => [(t, v)]
  | none => []
def keysOf (e : Hp) : List Nat := e.map (·.1)
def guardT (all : List Oper) (j : Nat) : Option Nat := (all[j]?).bind (·.dst)
def wants (all : List Oper) (o : Oper) (fr : Fr) : Option Bool :=
  match o.guard with
  | none => some true
  | some (j, want) =>
    match guardT all j with
    | some t => match fget fr t with
      | .e (.c (.bool b)) => some (bif want then b else !b)
      | .tup [] => some false
      | _ => none
    | none => none
def isG (all : List Oper) (i : Nat) : Bool := all.any fun o => match o.guard with | some (j, _) => Nat.beq j i | none => false
def okDst (nt : Nat) : Option Tmp → Bool
  | some t => Nat.blt t nt
  | none => true

abbrev Log := List (List Nat × List Nat)
/-- What is known of a call's outcome, as a quantifier over outcomes. -/
abbrev Qf := (FV → Hp → Prop) → Prop
abbrev Qs := FuncId → List FV → Hp → Nat → Option Qf
def QsOk (C : Cs) (Q : Qs) : Prop := ∀ f args H nm sr q, C f args H nm = some sr → Q f args H nm = some q → preOk sr.pre → ∀ K, q K → K sr.val sr.eff
def qOf (Q : Qs) (o : Op) (fr : Fr) (H : Hp) (nm : Nat) : Option Qf :=
  match o with
  | .call { callee := .value (.func f), args, .. } => Q f (args.toList.map (ev fr)) H nm
  | _ => none

def runR (T : Tys) (C : Cs) (Q : Qs) (nt : Nat) (all : List Oper) : List Oper → Nat → Fr → Hp → Nat → Log → (Fr → Hp → Nat → Log → Prop) → Prop
  | [], _, fr, H, nx, log, K => K fr H nx log
  | o :: rest, i, fr, H, nx, log, K =>
    bif okDst nt o.dst then
      match wants all o fr with
      | some true =>
        match stepF T C o.op fr H nx with
        | some ⟨pre, val, eff, rd⟩ =>
          match qOf Q o.op fr H nx, pre, isG all i, val with
          | none, none, false, v => runR T C Q nt all rest (i + 1) (putD o.dst v ++ fr) (eff ++ H) (nx + 1) ((keysOf eff, rd) :: log) K
          | none, some p, false, v => p ∧ runR T C Q nt all rest (i + 1) (putD o.dst v ++ fr) (eff ++ H) (nx + 1) ((keysOf eff, rd) :: log) K
          | none, none, true, .e (.c (.bool b)) => (b = true → runR T C Q nt all rest (i + 1) (putD o.dst (.e (.c (.bool true))) ++ fr) (eff ++ H) (nx + 1) ((keysOf eff, rd) :: log) K) ∧ (b = false → runR T C Q nt all rest (i + 1) (putD o.dst (.e (.c (.bool false))) ++ fr) (eff ++ H) (nx + 1) ((keysOf eff, rd) :: log) K)
          | none, some p, true, .e (.c (.bool b)) => p ∧ (b = true → runR T C Q nt all rest (i + 1) (putD o.dst (.e (.c (.bool true))) ++ fr) (eff ++ H) (nx + 1) ((keysOf eff, rd) :: log) K) ∧ (b = false → runR T C Q nt all rest (i + 1) (putD o.dst (.e (.c (.bool false))) ++ fr) (eff ++ H) (nx + 1) ((keysOf eff, rd) :: log) K)
          | some q, none, false, _ => q fun v e => runR T C Q nt all rest (i + 1) (putD o.dst v ++ fr) (e ++ H) (nx + 1) ((keysOf e, rd) :: log) K
          | some q, some p, false, _ => p ∧ q fun v e => runR T C Q nt all rest (i + 1) (putD o.dst v ++ fr) (e ++ H) (nx + 1) ((keysOf e, rd) :: log) K
          | _, _, _, _ => False
        | none => False
      | some false => runR T C Q nt all rest (i + 1) (putD o.dst (.tup []) ++ fr) H (nx + 1) (([], []) :: log) K
      | none => False
    else False

/-- What became of one operation. -/
structure Rec where
  ex : Bool
  val : FV
  eff : Hp
  rd : List Nat

def GoodAt (T : Tys) (C : Cs) (nt : Nat) (all : List Oper) (o : Oper) (rc : Rec) (fr : Fr) (H : Hp) (nm : Nat) : Prop :=
  okDst nt o.dst = true ∧ wants all o fr = some rc.ex ∧
  match rc.ex with
  | true => ∃ sr, stepF T C o.op fr H nm = some sr ∧ preOk sr.pre ∧ sr.val = rc.val ∧ sr.eff = rc.eff ∧ sr.rd = rc.rd
  | false => rc.val = .tup [] ∧ rc.eff = [] ∧ rc.rd = []

def Good (T : Tys) (C : Cs) (nt : Nat) (all : List Oper) : List Oper → List Rec → Fr → Hp → Nat → Prop
  | [], [], _, _, _ => True
  | o :: os, rc :: rs, fr, H, nx => GoodAt T C nt all o rc fr H nx ∧ Good T C nt all os rs (putD o.dst rc.val ++ fr) (rc.eff ++ H) (nx + 1)
  | _, _, _, _, _ => False

def frEs (os : List Oper) (rs : List Rec) : List Fr := List.zipWith (fun o rc => putD o.dst rc.val) os rs
def hpEs (rs : List Rec) : List Hp := rs.map (·.eff)
def logOf (rs : List Rec) : Log := rs.map fun rc => (keysOf rc.eff, rc.rd)

theorem qOf_ok {T : Tys} {C : Cs} {Q : Qs} (hQ : QsOk C Q) {o : Op} {fr : Fr} {H : Hp} {nm : Nat} {sr : SR} {q : Qf} (hs : stepF T C o fr H nm = some sr) (hq : qOf Q o fr H nm = some q) (hp : preOk sr.pre) : ∀ K, q K → K sr.val sr.eff := by
  unfold qOf at hq
  split at hq
  · simp only [stepF] at hs
    exact hQ _ _ _ _ _ _ hs hq hp
  · cases hq

theorem runR_good {T : Tys} {C : Cs} {Q : Qs} (hQ : QsOk C Q) {nt : Nat} {all : List Oper} : ∀ (os : List Oper) (i : Nat) (fr : Fr) (H : Hp) (nx : Nat) (log : Log) (K : Fr → Hp → Nat → Log → Prop), runR T C Q nt all os i fr H nx log K →
    ∃ rs, Good T C nt all os rs fr H nx ∧ K (sel (fun _ => true) (frEs os rs) 0 fr) (sel (fun _ => true) (hpEs rs) 0 H) (nx + os.length) ((logOf rs).reverse ++ log) := by
  intro os
  induction os with
  | nil => intro i fr H nx log K h; exact ⟨[], trivial, h⟩
  | cons o os ih =>
    intro i fr H nx log K h
    have selS : ∀ {α : Type} (es : List (List (Nat × α))) (k k' : Nat) (b : List (Nat × α)), sel (fun _ => true) es k b = sel (fun _ => true) es k' b := by
      intro α es
      induction es with
      | nil => intro k k' b; rfl
      | cons e es ih => intro k k' b; rw [sel, sel]; exact ih _ _ _
    have fin : ∀ (rc : Rec), GoodAt T C nt all o rc fr H nx → runR T C Q nt all os (i + 1) (putD o.dst rc.val ++ fr) (rc.eff ++ H) (nx + 1) ((keysOf rc.eff, rc.rd) :: log) K →
        ∃ rs, Good T C nt all (o :: os) rs fr H nx ∧ K (sel (fun _ => true) (frEs (o :: os) rs) 0 fr) (sel (fun _ => true) (hpEs rs) 0 H) (nx + (o :: os).length) ((logOf rs).reverse ++ log) := by
      intro rc hg hr
      obtain ⟨rs, h1, h2⟩ := ih _ _ _ _ _ _ hr
      refine ⟨rc :: rs, ⟨hg, h1⟩, ?_⟩
      have e1 : sel (fun _ => true) (frEs (o :: os) (rc :: rs)) 0 fr = sel (fun _ => true) (frEs os rs) 0 (putD o.dst rc.val ++ fr) := by
        show sel _ (putD o.dst rc.val :: frEs os rs) 0 fr = _
        rw [sel, cond_true]; exact selS _ _ _ _
      have e2 : sel (fun _ => true) (hpEs (rc :: rs)) 0 H = sel (fun _ => true) (hpEs rs) 0 (rc.eff ++ H) := by
        show sel _ (rc.eff :: hpEs rs) 0 H = _
        rw [sel, cond_true]; exact selS _ _ _ _
      rw [e1, e2, List.length_cons, show nx + (os.length + 1) = nx + 1 + os.length by omega]
      have e3 : (logOf (rc :: rs)).reverse ++ log = (logOf rs).reverse ++ ((keysOf rc.eff, rc.rd) :: log) := by simp [logOf]
      rw [e3]
      exact h2
    unfold runR at h
    cases hd : okDst nt o.dst with
    | false => rw [hd] at h; exact h.elim
    | true =>
      rw [hd, cond_true] at h
      split at h
      · rename_i hw
        split at h
        · rename_i pre val eff rd hs
          split at h
          · exact fin ⟨true, _, eff, rd⟩ ⟨hd, hw, _, hs, trivial, rfl, rfl, rfl⟩ h
          · exact fin ⟨true, _, eff, rd⟩ ⟨hd, hw, _, hs, h.1, rfl, rfl, rfl⟩ h.2
          · rename_i b _ hG
            rcases Bool.eq_false_or_eq_true b with hb | hb
            · subst hb; exact fin ⟨true, _, eff, rd⟩ ⟨hd, hw, _, hs, trivial, rfl, rfl, rfl⟩ (h.1 rfl)
            · subst hb; exact fin ⟨true, _, eff, rd⟩ ⟨hd, hw, _, hs, trivial, rfl, rfl, rfl⟩ (h.2 rfl)
          · rename_i p b _ hG
            rcases Bool.eq_false_or_eq_true b with hb | hb
            · subst hb; exact fin ⟨true, _, eff, rd⟩ ⟨hd, hw, _, hs, h.1, rfl, rfl, rfl⟩ (h.2.1 rfl)
            · subst hb; exact fin ⟨true, _, eff, rd⟩ ⟨hd, hw, _, hs, h.1, rfl, rfl, rfl⟩ (h.2.2 rfl)
          · rename_i q hq hG
            exact fin ⟨true, _, eff, rd⟩ ⟨hd, hw, _, hs, trivial, rfl, rfl, rfl⟩ (qOf_ok hQ hs hq trivial _ h)
          · rename_i q p hq hG
            exact fin ⟨true, _, eff, rd⟩ ⟨hd, hw, _, hs, h.1, rfl, rfl, rfl⟩ (qOf_ok hQ hs hq h.1 _ h.2)
          · exact h.elim
        · exact h.elim
      · rename_i hw
        exact fin ⟨false, .tup [], [], []⟩ ⟨hd, hw, rfl, rfl, rfl⟩ h
      · exact h.elim

theorem Good.at {T : Tys} {C : Cs} {nt : Nat} {all : List Oper} : ∀ (os : List Oper) (rs : List Rec) (fr : Fr) (H : Hp) (nx : Nat), Good T C nt all os rs fr H nx → os.length = rs.length ∧
    ∀ (i : Nat) o, os[i]? = some o → ∃ rc, rs[i]? = some rc ∧ GoodAt T C nt all o rc (sel (fun _ => true) ((frEs os rs).take i) 0 fr) (sel (fun _ => true) ((hpEs rs).take i) 0 H) (nx + i) := by
  intro os
  induction os with
  | nil =>
    intro rs fr H nx h
    cases rs with
    | nil => exact ⟨rfl, fun i o h => by cases i <;> cases h⟩
    | cons => exact h.elim
  | cons o os ih =>
    intro rs fr H nx h
    cases rs with
    | nil => exact h.elim
    | cons rc rs =>
      obtain ⟨hg, hr⟩ := h
      obtain ⟨hl, hi⟩ := ih _ _ _ _ hr
      have selS : ∀ {α : Type} (es : List (List (Nat × α))) (k k' : Nat) (b : List (Nat × α)), sel (fun _ => true) es k b = sel (fun _ => true) es k' b := by
        intro α es
        induction es with
        | nil => intro k k' b; rfl
        | cons e es ih => intro k k' b; rw [sel, sel]; exact ih _ _ _
      refine ⟨by simp [hl], fun i o' ho => ?_⟩
      cases i with
      | zero =>
        simp only [List.getElem?_cons_zero, Option.some.injEq] at ho
        subst ho
        exact ⟨rc, rfl, hg⟩
      | succ i =>
        obtain ⟨rc', h1, h2⟩ := hi i o' (by simpa using ho)
        refine ⟨rc', by simpa using h1, ?_⟩
        have e1 : sel (fun _ => true) ((frEs (o :: os) (rc :: rs)).take (i + 1)) 0 fr = sel (fun _ => true) ((frEs os rs).take i) 0 (putD o.dst rc.val ++ fr) := by
          show sel _ ((putD o.dst rc.val :: frEs os rs).take (i + 1)) 0 fr = _
          rw [List.take_succ_cons, sel, cond_true]; exact selS _ _ _ _
        have e2 : sel (fun _ => true) ((hpEs (rc :: rs)).take (i + 1)) 0 H = sel (fun _ => true) ((hpEs rs).take i) 0 (rc.eff ++ H) := by
          show sel _ ((rc.eff :: hpEs rs).take (i + 1)) 0 H = _
          rw [List.take_succ_cons, sel, cond_true]; exact selS _ _ _ _
        rw [e1, e2, show nx + (i + 1) = nx + 1 + i by omega]
        exact h2
end Go.Proofs.Ytolliidpmgncdaa.AX
