/- Functions with a pointer to an owned block, and functions that return a new one. -/
import Derived.Test.YtolliidpmgncdaaAxLoop
namespace Go.Proofs.Ytolliidpmgncdaa.AX
open Go.RowKit
set_option linter.unusedVariables false
set_option linter.unusedSimpArgs false

def EntLe (x : Option Ent) (e' : Ent) : Prop :=
  match x with
  | some e => LeN 0 e e'
  | none => False
/-- The end of a method: its result, and what the block of its receiver holds. -/
structure FinM (val : FV) (e' : Ent) (x : FV) (Hf : Hp) : Prop where
  le : LeF 0 x val
  ent : EntLe (hget Hf 0) e'
/-- The end of a function that returns a pointer to a new block. -/
structure FinN (e' : Ent) (x : FV) (Hf : Hp) : Prop where
  ex : ∃ j, x = .e (.c (.ptr j 0)) ∧ EntLe (hget Hf j) e'

theorem own_lt {cx : Cx} {r : Nat → Option Nat} {H : Hp} {w : World} (st : St cx r H w) : ∀ b, own cx r H b → b < w.heap.size := by
  rintro b (hx | ⟨k, e, he, hk⟩)
  · exact Nat.lt_of_lt_of_le (st.xlt b hx) st.size
  · exact (st.dom k b hk).1

def MethOk (P : Program) (f : FuncId) (rest : List FV) (e : Ent) (val : FV) (e' : Ent) : Prop :=
  ∀ cx r H w nm k e0 (vals : Array Value), St cx r H w → hget H k = some e0 → LeN 0 e0 e → RelL r (own cx r H) w (.e (.c (.ptr k 0)) :: rest) vals →
    Calls P f vals w fun en w' => ∃ v, en = .returned v ∧ Left cx r H w nm ⟨none, val, [(k, some e')], [k]⟩ v w'

theorem meth_intro {P : Program} {T : Tys} {C : Cs} {Q : Qs} (hT : TysOk P T) (hC : CallsOk P C) (hL : CsLocal C) (hQ : QsOk C Q) (hm : P.follows .mixedOrders = true) {f : FuncId} {fn : Func} {c : Code} (hf : P.funcs[f]? = some fn) (hb : fn.body = some c) {rest : List FV} (hn : (FV.e (.c (.ptr 0 0)) :: rest).length ≤ fn.ntmps)
    {e e' : Ent} {val : FV} (ht : e'.t = e.t) (hcl : ∀ x ∈ rest, LeF 0 x x)
    (h : exec T C Q fn.ntmps 1 c (argFr (.e (.c (.ptr 0 0)) :: rest) 0) [(0, some e)] 1 (endH T fn.results.toList (FinM val e'))) : MethOk P f rest e val e' := by
  intro cx r H w nm k e0 vals st hk hle hrel
  obtain ⟨b, cs, hb0, hheap, hcn, hcells⟩ := st.blk k e0 hk
  obtain ⟨hlt, hdm, hnx⟩ := st.dom k b hb0
  have hres0 : ∀ r, res 0 r = fun _ => none := fun r => by funext k; simp [res]
  -- the callee's state
  have hown : own ⟨w, fun x => x = b, fun x => own cx r H x ∧ x ≠ b, fun n => if n = 0 then some b else none⟩ (fun n => if n = 0 then some b else none) [(0, some e)] = own cx r H := by
    funext x
    apply propext
    constructor
    · rintro (⟨h1, _⟩ | ⟨n, e1, h1, h2⟩)
      · exact h1
      · have : x = b := by
          simp only at h2
          split at h2
          · injection h2 with h2; exact h2.symm
          · cases h2
        subst this
        exact .inr ⟨k, e0, hk, hb0⟩
    · intro h1
      by_cases hx : x = b
      · exact .inr ⟨0, e, rfl, by simp [hx]⟩
      · exact .inl ⟨h1, hx⟩
  have st1 : St ⟨w, fun x => x = b, fun x => own cx r H x ∧ x ≠ b, fun n => if n = 0 then some b else none⟩ (fun n => if n = 0 then some b else none) [(0, some e)] w := by
    refine ⟨rfl, rfl, rfl, Nat.le_refl _, fun _ _ _ => rfl, fun x hx => own_lt st x hx.1, fun n x hx => ?_, fun n m x hn hm => ?_, fun n x h => h, fun n e1 h1 => ?_⟩
    · split at hx
      · injection hx with hx
        subst hx
        exact ⟨hlt, .inr rfl, fun h => h.2 rfl⟩
      · cases hx
    · split at hn
      · split at hm
        · omega
        · cases hm
      · cases hn
    · have hn0 : n = 0 := by
        by_cases h0 : n = 0
        · exact h0
        · have : hget [(0, some e)] n = none := look_cons_ne _ _ _ h0
          rw [this] at h1; cases h1
      subst hn0
      have : hget [(0, some e)] 0 = some e := rfl
      rw [this] at h1
      injection h1 with h1
      subst h1
      refine ⟨b, cs, by simp, by rw [← hle.1]; exact hheap, by rw [← hle.2.1]; exact hcn, fun i u hu => ?_⟩
      rw [hown]
      have hi : i < e0.n := by rw [← hcn]; exact (Array.getElem?_eq_some_iff.1 hu).1
      have h2 := hle.2.2 i hi _ _ _ _ (hcells i u hu)
      rw [hres0] at h2
      exact CV.rel_ext ⟨fun _ _ h => (by cases h), Nat.le_refl _, fun _ _ _ => rfl, fun _ _ h => h⟩ _ _ h2
  refine (fn_run hT hC hL hQ hm hf hb hn h (fun n x hx => ?_) st1 (vals := vals) ⟨hrel.1, fun i x u hx hu => ?_⟩ (fun n hn => if_neg (by omega))).mono fun en w' he => ?_
  · have hx' : (if n = 0 then some b else none) = some x := hx
    split at hx'
    · omega
    · cases hx'
  · rw [hown]
    cases i with
    | zero =>
      injection hx with hx
      subst hx
      obtain ⟨b', hb', hv⟩ := hrel.2 0 _ u rfl hu
      rw [hb0] at hb'
      injection hb' with hb'
      subst hb'
      exact ⟨b, by simp, hv⟩
    | succ i =>
      have hx' : rest[i]? = some x := by simpa using hx
      have h2 := hcl x (List.mem_of_getElem? hx') _ _ _ _ (hrel.2 (i + 1) x u (by simpa using hx) hu)
      rw [hres0] at h2
      exact FV.rel_ext ⟨fun _ _ h => (by cases h), Nat.le_refl _, fun _ _ _ => rfl, fun _ _ h => h⟩ _ _ h2
  · obtain ⟨v, r', x, Hf, rfl, ⟨hle1, hent⟩, st', hx⟩ := he
    unfold EntLe at hent
    split at hent
    · rename_i e2 he2
      obtain ⟨b2, cs2, hb2, hheap2, hcn2, hcells2⟩ := st'.blk 0 e2 he2
      have hb2' : r' 0 = some b := st'.pin 0 b (by simp)
      rw [hb2] at hb2'
      injection hb2' with hb2'
      subst hb2'
      -- back in the caller's state
      have hownEq : ∀ y, own cx r ((k, some e') :: H) y → own cx r H y := by
        rintro y (hy | ⟨n, e1, h1, h2⟩)
        · exact .inl hy
        · by_cases hn : n = k
          · subst hn; exact .inr ⟨n, e0, hk, h2⟩
          · have : hget ((k, some e') :: H) n = hget H n := look_cons_ne _ _ _ hn
            rw [this] at h1; exact .inr ⟨n, e1, h1, h2⟩
      have hE : Ext r (own cx r H) w r (own cx r ((k, some e') :: H)) w' :=
        ⟨fun _ _ h => h, st'.size, fun y hy ho => st'.kept y hy (fun hyb => ho (.inr ⟨k, e0, hk, by rw [hyb]; exact hb0⟩)), fun y _ h => hownEq y h⟩
      have hsub : ∀ y, own cx r ((k, some e') :: H) y → own ⟨w, fun x => x = b2, fun x => own cx r H x ∧ x ≠ b2, fun n => if n = 0 then some b2 else none⟩ r' Hf y := by
        intro y hy
        by_cases hyb : y = b2
        · exact .inr ⟨0, e2, he2, by rw [hyb]; exact hb2⟩
        · exact .inl ⟨hownEq y hy, hyb⟩
      refine ⟨v, rfl, r, hE, ⟨st'.os.trans st.os, st'.tape.trans st.tape, st'.output.trans st.output, Nat.le_trans st.size st'.size, fun y hy hne => ?_, st.xlt, fun n y hy => ?_, st.inj, st.pin, fun n e1 h1 => ?_⟩, fun _ _ => rfl, ?_⟩
      · rw [← st.kept y hy hne]
        refine st'.kept y (Nat.lt_of_lt_of_le hy st.size) (fun hyb => ?_)
        have hyb' : y = b2 := hyb
        subst hyb'
        rcases hdm with hdm | hdm
        · omega
        · exact hne hdm
      · obtain ⟨h2, h3, h4⟩ := st.dom n y hy
        exact ⟨Nat.lt_of_lt_of_le h2 st'.size, h3, h4⟩
      · by_cases hnk : n = k
        · subst hnk
          have : hget ((n, some e') :: H) n = some e' := look_cons_eq _ _ _ _
          have h1 := this.symm.trans h1
          injection h1 with h1
          subst h1
          refine ⟨b2, cs2, hb0, by rw [← hent.1]; exact hheap2, by rw [← hent.2.1]; exact hcn2, fun i u hu => ?_⟩
          have hi : i < e2.n := by rw [← hcn2]; exact (Array.getElem?_eq_some_iff.1 hu).1
          have h2 := hent.2.2 i hi _ _ _ _ (hcells2 i u hu)
          rw [hres0] at h2
          exact CV.rel_ext ⟨fun _ _ h => (by cases h), Nat.le_refl _, fun _ _ _ => rfl, fun y _ h => hsub y h⟩ _ _ h2
        · have : hget ((k, some e') :: H) n = hget H n := look_cons_ne _ _ _ hnk
          have h1 := this.symm.trans h1
          obtain ⟨y, cs', g1, g2, g3, g4⟩ := st.blk n e1 h1
          have hyb : y ≠ b2 := fun hy => hnk (st.inj n k b2 (hy ▸ g1) hb0)
          exact ⟨y, cs', g1, (st'.kept y (st.dom n y g1).1 hyb).trans g2, g3, fun i u hu => CV.rel_ext hE _ _ (g4 i u hu)⟩
      · have h2 := hle1 _ _ _ _ hx
        rw [hres0] at h2
        exact FV.rel_ext ⟨fun _ _ h => (by cases h), Nat.le_refl _, fun _ _ _ => rfl, fun y _ h => hsub y h⟩ _ _ h2
    · exact hent.elim

/-- The entry of a method: by what the receiver's block holds and by the other arguments. -/
def methG (g : Ent → List FV → Option (Option Prop × FV × Ent)) : List FV → Hp → Nat → Option SR := fun args H _ =>
  match args with
  | .e (.c (.ptr k off)) :: rest => bif Nat.beq off 0 then
      match hget H k with
      | some e => match g e rest with
        | some (p, v, e') => some ⟨p, v, [(k, some e')], [k]⟩
        | none => none
      | none => none
    else none
  | _ => none
/-- What is known of a method's outcome: a quantifier over its result and the block behind it. -/
def methQ (q : Ent → List FV → Option ((FV → Ent → Prop) → Prop)) : List FV → Hp → Nat → Option Qf := fun args H _ =>
  match args with
  | .e (.c (.ptr k off)) :: rest =>
      match hget H k with
      | some e => match q e rest with
        | some t => some fun K => t fun v e' => K v [(k, some e')]
        | none => none
      | none => none
  | _ => none
def methE (g : Ent → List FV → Option (Option Prop × FV × Ent)) (q : Ent → List FV → Option ((FV → Ent → Prop) → Prop)) : Entry := ⟨methG g, methQ q⟩
theorem methE_ok {P : Program} {f : FuncId} {g : Ent → List FV → Option (Option Prop × FV × Ent)} {q : Ent → List FV → Option ((FV → Ent → Prop) → Prop)} (hb : hasBody P f) (h : ∀ e rest p v e', g e rest = some (p, v, e') → preOk p → ∃ e1 rest', LeN 0 e e1 ∧ rest.length = rest'.length ∧ (∀ (i : Nat) x y, rest[i]? = some x → rest'[i]? = some y → LeF 0 x y) ∧ MethOk P f rest' e1 v e')
    (hq1 : ∀ e rest p v e' t, g e rest = some (p, v, e') → q e rest = some t → preOk p → ∀ K, t K → K v e') (hq2 : ∀ e rest t, q e rest = some t → ∀ K K' : FV → Ent → Prop, (∀ v e, K v e → K' v e) → t K → t K') : EntOk P f (methE g q) := by
  constructor
  · intro cx r H w nm args vals sr hs hp st hr hh hl
    refine ⟨hb, ?_⟩
    simp only [methE, methG] at hs
    split at hs
    · rename_i k off rest
      cases hb0 : Nat.beq off 0 with
      | false => rw [hb0] at hs; cases hs
      | true =>
        rw [hb0, cond_true] at hs
        have e0 : off = 0 := Nat.eq_of_beq_eq_true hb0
        subst e0
        split at hs
        · rename_i e he
          split at hs
          · rename_i p v e' hg
            injection hs with hs
            subst hs
            obtain ⟨e1, rest', hle, hlen, hrest, hmeth⟩ := h e rest p v e' hg hp
            refine hmeth cx r H w nm k e vals st he hle ⟨by rw [hl.1]; simp [hlen], fun i x u hx hu => ?_⟩
            cases i with
            | zero =>
              injection hx with hx
              subst hx
              exact hl.2 0 _ u rfl hu
            | succ i =>
              have hx' : rest'[i]? = some x := by simpa using hx
              have hi : i < rest.length := by rw [hlen]; exact (List.getElem?_eq_some_iff.1 hx').1
              have h2 := hrest i _ x (List.getElem?_eq_getElem hi) hx' _ _ _ _ (hl.2 (i + 1) _ u (List.getElem?_eq_getElem (l := _ :: rest) (by simpa using hi)) hu)
              exact FV.rel_ext ⟨fun n b h => by simp [res] at h, Nat.le_refl _, fun _ _ _ => rfl, fun _ _ h => h⟩ _ _ h2
          · cases hs
        · cases hs
    · cases hs
  · intro args H H' nm sr hs hh
    simp only [methE, methG] at hs ⊢
    split at hs
    · rename_i k off rest
      cases hb0 : Nat.beq off 0 with
      | false => rw [hb0] at hs; cases hs
      | true =>
        simp only [hb0, cond_true] at hs ⊢
        split at hs
        · rename_i e he
          split at hs
          · rename_i p v e' hg
            injection hs with hs
            subst hs
            have := hh k (List.mem_singleton.2 rfl)
            rw [← this, he]
            simp only [hg]
          · cases hs
        · cases hs
    · cases hs
  · intro args H nm sr k hs hk hp K hK
    simp only [methE, methG] at hs
    simp only [methE, methQ] at hk
    split at hs
    · rename_i j off rest
      cases hb0 : Nat.beq off 0 with
      | false => rw [hb0] at hs; cases hs
      | true =>
        simp only [hb0, cond_true] at hs
        split at hs
        · rename_i e he
          simp only [he] at hk
          split at hs
          · rename_i p v e' hg
            injection hs with hs
            subst hs
            split at hk
            · rename_i t ht
              injection hk with hk
              subst hk
              exact hq1 e rest p v e' t hg ht hp _ hK
            · cases hk
          · cases hs
        · cases hs
    · cases hs
  · intro args H nm k hk K K' hKK hK
    simp only [methE, methQ] at hk
    split at hk
    · split at hk
      · split at hk
        · rename_i t ht
          injection hk with hk
          subst hk
          exact hq2 _ _ t ht _ _ (fun v e h => hKK v _ h) hK
        · cases hk
      · cases hk
    · cases hk

/-- The contract of a function that returns a pointer to a new block. -/
def NewOk (P : Program) (f : FuncId) (args : List FV) (e' : Ent) : Prop :=
  ∀ cx r H w nm (vals : Array Value), St cx r H w → r nm = none → RelL r (own cx r H) w args vals →
    Calls P f vals w fun en w' => ∃ v, en = .returned v ∧ Left cx r H w nm ⟨none, one (.ptr nm 0), [(nm, some e')], []⟩ v w'
theorem new_intro {P : Program} {T : Tys} {C : Cs} {Q : Qs} (hT : TysOk P T) (hC : CallsOk P C) (hL : CsLocal C) (hQ : QsOk C Q) (hm : P.follows .mixedOrders = true) {f : FuncId} {fn : Func} {c : Code} (hf : P.funcs[f]? = some fn) (hb : fn.body = some c) {args : List FV} (hn : args.length ≤ fn.ntmps)
    {e' : Ent} (hcl : ∀ x ∈ args, LeF 0 x x) (h : exec T C Q fn.ntmps 0 c (argFr args 0) [] 0 (endH T fn.results.toList (FinN e'))) : NewOk P f args e' := by
  intro cx r H w nm vals st hrn hrel
  have hres0 : ∀ r, res 0 r = fun _ => none := fun r => by funext k; simp [res]
  have st1 : St ⟨w, fun _ => False, own cx r H, fun _ => none⟩ (fun _ => none) [] w := ⟨rfl, rfl, rfl, Nat.le_refl _, fun _ _ _ => rfl, own_lt st, fun _ _ h => (by cases h), fun _ _ _ h => (by cases h), fun _ _ h => (by cases h), fun _ _ h => (by cases h)⟩
  have hown : own ⟨w, fun _ => False, own cx r H, fun _ => none⟩ (fun _ => none) [] = own cx r H := by
    funext b
    simp [own, hget, look]
  refine (fn_run hT hC hL hQ hm hf hb hn h (fun _ _ h => by cases h) st1 (vals := vals) ⟨hrel.1, fun i x u hx hu => ?_⟩ (fun _ _ => rfl)).mono fun en w' he => ?_
  · have h1 := hcl x (List.mem_of_getElem? hx) _ _ _ _ (hrel.2 i x u hx hu)
    rw [hres0] at h1
    rw [hown]; exact h1
  · obtain ⟨v, r', x, Hf, rfl, ⟨j, rfl, hent⟩, st', hx⟩ := he
    unfold EntLe at hent
    split at hent
    · rename_i e2 he2
      obtain ⟨b2, cs2, hb2, hheap2, hcn2, hcells2⟩ := st'.blk j e2 he2
      obtain ⟨hlt2, hdm2, hnx2⟩ := st'.dom j b2 hb2
      have hge : w.heap.size ≤ b2 := by
        rcases hdm2 with h | h
        · exact h
        · exact h.elim
      obtain ⟨b3, hb3, hv⟩ := hx
      rw [hb2] at hb3
      injection hb3 with hb3
      subst hb3
      have hhn : hget H nm = none := by
        cases hh : hget H nm with
        | none => rfl
        | some e => obtain ⟨b, _, hb, _⟩ := st.blk _ e hh; rw [hrn] at hb; cases hb
      have hr2 : ∀ n y, r n = some y → (if n = nm then some b2 else r n) = some y := fun n y hy => by
        by_cases hnn : n = nm
        · subst hnn; rw [hrn] at hy; cases hy
        · rw [if_neg hnn]; exact hy
      have hownB : ∀ y, own cx (fun n => if n = nm then some b2 else r n) ((nm, some e') :: H) y → own cx r H y ∨ y = b2 := by
        rintro y (hy | ⟨n, e1, h1, h2⟩)
        · exact .inl (.inl hy)
        · by_cases hnn : n = nm
          · simp only [if_pos hnn] at h2; injection h2 with h2; exact .inr h2.symm
          · simp only [if_neg hnn] at h2
            have : hget ((nm, some e') :: H) n = hget H n := look_cons_ne _ _ _ hnn
            rw [this] at h1; exact .inl (.inr ⟨n, e1, h1, h2⟩)
      have hE : Ext r (own cx r H) w (fun n => if n = nm then some b2 else r n) (own cx (fun n => if n = nm then some b2 else r n) ((nm, some e') :: H)) w' :=
        ⟨hr2, st'.size, fun y hy _ => st'.kept y hy id, fun y hy h => by
          rcases hownB y h with h1 | h1
          · exact h1
          · omega⟩
      refine ⟨v, rfl, fun n => if n = nm then some b2 else r n, hE, ⟨st'.os.trans st.os, st'.tape.trans st.tape, st'.output.trans st.output, Nat.le_trans st.size st'.size, fun y hy hne => ?_, st.xlt, fun n y hy => ?_, fun n m y hn hm => ?_, fun n y hy => hr2 n y (st.pin n y hy), fun n e1 h1 => ?_⟩, fun n hn => if_neg hn, ⟨b2, if_pos rfl, hv⟩⟩
      · rw [← st.kept y hy hne]
        exact st'.kept y (Nat.lt_of_lt_of_le hy st.size) id
      · by_cases hnn : n = nm
        · have hy' : (if n = nm then some b2 else r n) = some y := hy
          rw [if_pos hnn] at hy'
          injection hy' with hy'
          subst hy'
          exact ⟨hlt2, .inl (Nat.le_trans st.size hge), fun hX => by have := st.xlt _ hX; have := st.size; omega⟩
        · have hy' : (if n = nm then some b2 else r n) = some y := hy
          rw [if_neg hnn] at hy'
          obtain ⟨h2, h3, h4⟩ := st.dom n y hy'
          exact ⟨Nat.lt_of_lt_of_le h2 st'.size, h3, h4⟩
      · have hn' : (if n = nm then some b2 else r n) = some y := hn
        have hm' : (if m = nm then some b2 else r m) = some y := hm
        by_cases hnn : n = nm
        · by_cases hmm : m = nm
          · omega
          · rw [if_pos hnn] at hn'; rw [if_neg hmm] at hm'
            injection hn' with hn'
            have := (st.dom m y hm').1
            omega
        · by_cases hmm : m = nm
          · rw [if_neg hnn] at hn'; rw [if_pos hmm] at hm'
            injection hm' with hm'
            have := (st.dom n y hn').1
            omega
          · rw [if_neg hnn] at hn'; rw [if_neg hmm] at hm'
            exact st.inj n m y hn' hm'
      · by_cases hnn : n = nm
        · subst hnn
          have : hget ((n, some e') :: H) n = some e' := look_cons_eq _ _ _ _
          have h1 := this.symm.trans h1
          injection h1 with h1
          subst h1
          refine ⟨b2, cs2, if_pos rfl, by rw [← hent.1]; exact hheap2, by rw [← hent.2.1]; exact hcn2, fun i u hu => ?_⟩
          have hi : i < e2.n := by rw [← hcn2]; exact (Array.getElem?_eq_some_iff.1 hu).1
          have h2 := hent.2.2 i hi _ _ _ _ (hcells2 i u hu)
          rw [hres0] at h2
          refine CV.rel_ext ⟨fun _ _ h => (by cases h), Nat.le_refl _, fun _ _ _ => rfl, fun y _ h => ?_⟩ _ _ h2
          rcases hownB y h with h3 | h3
          · exact .inl h3
          · exact .inr ⟨j, e2, he2, by rw [h3]; exact hb2⟩
        · have : hget ((nm, some e') :: H) n = hget H n := look_cons_ne _ _ _ hnn
          have h1 := this.symm.trans h1
          obtain ⟨y, cs', g1, g2, g3, g4⟩ := st.blk n e1 h1
          exact ⟨y, cs', hr2 n y g1, (st'.kept y (st.dom n y g1).1 id).trans g2, g3, fun i u hu => CV.rel_ext hE _ _ (g4 i u hu)⟩
    · exact hent.elim
def newE (g : List FV → Option (Option Prop × Ent)) : Entry where
  g args _ nm := match g args with
    | some (p, e') => some ⟨p, one (.ptr nm 0), [(nm, some e')], []⟩
    | none => none
  q _ _ _ := none
theorem newE_ok {P : Program} {f : FuncId} {g : List FV → Option (Option Prop × Ent)} (hb : hasBody P f) (h : ∀ args p e', g args = some (p, e') → preOk p → NewOk P f args e') : EntOk P f (newE g) := by
  refine ⟨fun cx r H w nm args vals sr hs hp st hr hh hl => ⟨hb, ?_⟩, fun args H H' nm sr hs _ => hs, fun _ _ _ _ _ _ hq => (by cases hq), fun _ _ _ _ hq => (by cases hq)⟩
  simp only [newE] at hs
  split at hs
  · rename_i p e' hg
    injection hs with hs
    subst hs
    exact h args p e' hg hp cx r H w nm vals st hr hl
  · cases hs

/-- What an owned block holds may be said more weakly. -/
theorem St.weakEnt {cx : Cx} {r : Nat → Option Nat} {H : Hp} {w : World} {k : Nat} {e e2 : Ent} (st : St cx r ((k, some e) :: H) w) (hle : LeN 0 e e2) :
    own cx r ((k, some e2) :: H) = own cx r ((k, some e) :: H) ∧ St cx r ((k, some e2) :: H) w := by
  have hk : ∀ n, n ≠ k → hget ((k, some e2) :: H) n = hget ((k, some e) :: H) n := fun n hn => (look_cons_ne _ _ _ hn).trans (look_cons_ne _ _ _ hn).symm
  have h0 : hget ((k, some e2) :: H) k = some e2 := look_cons_eq _ _ _ _
  have h1 : hget ((k, some e) :: H) k = some e := look_cons_eq _ _ _ _
  have hown : own cx r ((k, some e2) :: H) = own cx r ((k, some e) :: H) := by
    funext b
    apply propext
    constructor
    · rintro (h | ⟨n, e', he, hn⟩)
      · exact .inl h
      · by_cases hnk : n = k
        · subst hnk; exact .inr ⟨n, e, h1, hn⟩
        · exact .inr ⟨n, e', (hk n hnk) ▸ he, hn⟩
    · rintro (h | ⟨n, e', he, hn⟩)
      · exact .inl h
      · by_cases hnk : n = k
        · subst hnk; exact .inr ⟨n, e2, h0, hn⟩
        · exact .inr ⟨n, e', (hk n hnk).trans he, hn⟩
  refine ⟨hown, st.os, st.tape, st.output, st.size, st.kept, st.xlt, st.dom, st.inj, st.pin, fun n e' he => ?_⟩
  rw [hown]
  by_cases hnk : n = k
  · subst hnk
    rw [h0] at he
    injection he with he
    subst he
    obtain ⟨b, cs, g1, g2, g3, g4⟩ := st.blk n e h1
    refine ⟨b, cs, g1, by rw [← hle.1]; exact g2, by rw [← hle.2.1]; exact g3, fun i u hu => ?_⟩
    have hi : i < e.n := by rw [← g3]; exact (Array.getElem?_eq_some_iff.1 hu).1
    exact CV.rel_ext ⟨fun n b h => by simp [res] at h, Nat.le_refl _, fun _ _ _ => rfl, fun _ _ h => h⟩ _ _ (hle.2.2 i hi _ _ _ _ (g4 i u hu))
  · rw [hk n hnk] at he
    exact st.blk n e' he
theorem MethOk.mono {P : Program} {f : FuncId} {rest : List FV} {e e' e2 : Ent} {val : FV} (h : MethOk P f rest e val e') (hle : LeN 0 e' e2) : MethOk P f rest e val e2 := by
  intro cx r H w nm k e0 vals st hk hl hrel
  refine (h cx r H w nm k e0 vals st hk hl hrel).mono fun en w' he => ?_
  obtain ⟨v, rfl, r', h1, h2, h3, h4⟩ := he
  have h2' : St cx r' ((k, some e') :: H) w' := h2
  obtain ⟨g1, g2⟩ := h2'.weakEnt hle
  have g1' : own cx r' ([(k, some e2)] ++ H) = own cx r' ([(k, some e')] ++ H) := g1
  refine ⟨v, rfl, r', ?_, g2, h3, ?_⟩
  · rw [g1']; exact h1
  · rw [g1']; exact h4
theorem NewOk.mono {P : Program} {f : FuncId} {args : List FV} {e' e2 : Ent} (h : NewOk P f args e') (hle : LeN 0 e' e2) : NewOk P f args e2 := by
  intro cx r H w nm vals st hr hrel
  refine (h cx r H w nm vals st hr hrel).mono fun en w' he => ?_
  obtain ⟨v, rfl, r', h1, h2, h3, h4⟩ := he
  have h2' : St cx r' ((nm, some e') :: H) w' := h2
  obtain ⟨g1, g2⟩ := h2'.weakEnt hle
  have g1' : own cx r' ([(nm, some e2)] ++ H) = own cx r' ([(nm, some e')] ++ H) := g1
  refine ⟨v, rfl, r', ?_, g2, h3, ?_⟩
  · rw [g1']; exact h1
  · rw [g1']; exact h4
theorem NewOk.le {P : Program} {f : FuncId} {args args' : List FV} {e' : Ent} (h : NewOk P f args' e') (hl : args.length = args'.length) (hle : ∀ (i : Nat) x y, args[i]? = some x → args'[i]? = some y → LeF 0 x y) : NewOk P f args e' := by
  intro cx r H w nm vals st hr hrel
  refine h cx r H w nm vals st hr ⟨hrel.1.trans hl, fun i y u hy hu => ?_⟩
  have hi : i < args.length := by rw [hl]; exact (List.getElem?_eq_some_iff.1 hy).1
  exact FV.rel_ext ⟨fun n b h => by simp [res] at h, Nat.le_refl _, fun _ _ _ => rfl, fun _ _ h => h⟩ _ _ (hle i _ y (List.getElem?_eq_getElem hi) hy _ _ _ _ (hrel.2 i _ u (List.getElem?_eq_getElem hi) hu))
end Go.Proofs.Ytolliidpmgncdaa.AX
