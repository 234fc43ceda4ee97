/- Code in the abstract, and that it is sound. -/
import Derived.Test.YtolliidpmgncdaaAxAny
import Derived.LoopN
namespace Go.Proofs.Ytolliidpmgncdaa.AX
open Go.RowKit
set_option linter.unusedVariables false
set_option linter.unusedSimpArgs false

/-! ### Weaker states -/
def res (nx : Nat) (r : Nat → Option Nat) (k : Nat) : Option Nat := if k < nx then r k else none
def LeC (nx : Nat) (x y : CV) : Prop := ∀ r O w v, x.rel r O w v → y.rel (res nx r) O w v
def LeE (nx : Nat) (x y : EV) : Prop := ∀ r O w v, x.rel r O w v → y.rel (res nx r) O w v
def LeF (nx : Nat) (x y : FV) : Prop := ∀ r O w v, x.rel r O w v → y.rel (res nx r) O w v
def LeN (nx : Nat) (e e' : Ent) : Prop := e.t = e'.t ∧ e.n = e'.n ∧ ∀ i, i < e.n → LeC nx (e.f i) (e'.f i)
def WkF (nx : Nat) (fr : Fr) : Fr → Prop
  | [] => True
  | (t, v) :: rest => LeF nx (fget fr t) v ∧ WkF nx fr rest
def WkH (nx : Nat) (H : Hp) : Hp → Prop
  | [] => True
  | (_, none) :: rest => WkH nx H rest
  | (k, some e') :: rest => (Nat.blt k nx = true ∧ match hget H k with | some e => LeN nx e e' | none => False) ∧ WkH nx H rest

theorem WkF.at {nx : Nat} {fr : Fr} : ∀ {fr' : Fr}, WkF nx fr fr' → ∀ t, LeF nx (fget fr t) (fget fr' t) := by
  intro fr'
  induction fr' with
  | nil => intro _ t r O w v _; trivial
  | cons p fr' ih =>
    obtain ⟨k, x⟩ := p
    rintro ⟨h1, h2⟩ t
    by_cases ht : t = k
    · subst ht
      have : fget ((t, x) :: fr') t = x := look_cons_eq _ _ _ _
      rw [this]; exact h1
    · have : fget ((k, x) :: fr') t = fget fr' t := look_cons_ne _ _ _ ht
      rw [this]; exact ih h2 t
theorem WkH.at {nx : Nat} {H : Hp} : ∀ {H' : Hp}, WkH nx H H' → ∀ k e', hget H' k = some e' → k < nx ∧ ∃ e, hget H k = some e ∧ LeN nx e e' := by
  intro H'
  induction H' with
  | nil => intro _ k e' h; cases h
  | cons p H' ih =>
    obtain ⟨k0, x⟩ := p
    intro h k e' he
    by_cases hk : k = k0
    · subst hk
      have e1 : hget ((k, x) :: H') k = x := look_cons_eq _ _ _ _
      rw [e1] at he
      subst he
      obtain ⟨⟨h1, h2⟩, _⟩ := h
      split at h2
      · rename_i e hh; exact ⟨Nat.le_of_ble_eq_true h1, e, hh, h2⟩
      · exact h2.elim
    · have e1 : hget ((k0, x) :: H') k = hget H' k := look_cons_ne _ _ _ hk
      rw [e1] at he
      cases x with
      | none => exact ih h k e' he
      | some x => exact ih h.2 k e' he

theorem weaken {cx : Cx} {r : Nat → Option Nat} {H : Hp} {w : World} {fr : Fr} {tmps : Array Value} (st : St cx r H w) (hf : FrOk cx r H w fr tmps) {nx : Nat} {fr' : Fr} {H' : Hp} (h0 : ∀ k b, cx.pin k = some b → k < nx) (h1 : WkF nx fr fr') (h2 : WkH nx H H') :
    St cx (res nx r) H' w ∧ FrOk cx (res nx r) H' w fr' tmps ∧ ∀ k, nx ≤ k → res nx r k = none := by
  have hres : ∀ k b, res nx r k = some b → r k = some b := fun k b h => by
    unfold res at h; split at h
    · exact h
    · cases h
  have hext : Ext (res nx r) (own cx r H) w (res nx r) (own cx (res nx r) H') w := ⟨fun _ _ h => h, Nat.le_refl _, fun _ _ _ => rfl, fun b _ o => by
    rcases o with o | ⟨k, e', he, hk⟩
    · exact .inl o
    · obtain ⟨_, e, he2, _⟩ := h2.at k e' he
      exact .inr ⟨k, e, he2, hres k b hk⟩⟩
  refine ⟨⟨st.os, st.tape, st.output, st.size, st.kept, st.xlt, fun k b h => st.dom k b (hres k b h), fun n m b hn hm => st.inj n m b (hres n b hn) (hres m b hm), fun k b hk => by unfold res; rw [if_pos (h0 k b hk)]; exact st.pin k b hk, fun k e' he => ?_⟩, fun t => ?_, fun k hk => by unfold res; rw [if_neg (by omega)]⟩
  · obtain ⟨hlt, e, he2, ht, hn, hc⟩ := h2.at k e' he
    obtain ⟨b, cs, g1, g2, g3, g4⟩ := st.blk k e he2
    refine ⟨b, cs, by unfold res; rw [if_pos hlt]; exact g1, by rw [← ht]; exact g2, by rw [← hn]; exact g3, fun i u hu => ?_⟩
    have hi : i < e.n := by rw [← g3]; exact (Array.getElem?_eq_some_iff.1 hu).1
    exact CV.rel_ext hext _ _ (hc i hi _ _ _ _ (g4 i u hu))
  · exact FV.rel_ext hext _ _ (h1.at t _ _ _ _ (hf t))

/-! ### Code -/
abbrev Kt := Exit → Fr → Hp → Nat → Prop
def seqK (next : Fr → Hp → Nat → Prop) (K : Kt) : Kt
  | .normal, fr, H, nx => next fr H nx
  | e, fr, H, nx => K e fr H nx
def blkK (id : Nat) (K : Kt) : Kt
  | .exit id', fr, H, nx => bif Nat.beq id' id then K .normal fr H nx else K (.exit id') fr H nx
  | e, fr, H, nx => K e fr H nx
def iter (np : Nat) (R : Fr → Hp → Nat → Kt → Prop) (K : Kt) : Nat → Fr → Hp → Nat → Prop
  | 0, _, _, _ => False
  | n + 1, fr, H, nx => ∃ fr' H' nx', Nat.ble np nx' = true ∧ WkF nx' fr fr' ∧ WkH nx' H H' ∧ R fr' H' nx' (seqK (iter np R K n) K)

def exec (T : Tys) (C : Cs) (Q : Qs) (nt np : Nat) : Code → Fr → Hp → Nat → Kt → Prop
  | .skip, fr, H, nx, K => K .normal fr H nx
  | .region _ ops draw, fr, H, nx, K => runR T C Q nt ops.toList ops.toList 0 fr H nx [] fun fr H nx log => bif !draw || regOk ops.toList log.reverse then K .normal fr H nx else False
  | .seq a b, fr, H, nx, K => exec T C Q nt np a fr H nx (seqK (fun fr H nx => exec T C Q nt np b fr H nx K) K)
  | .cond c a b, fr, H, nx, K =>
    match ev fr c with
    | .e (.c (.bool t)) => (t = true → exec T C Q nt np a fr H nx K) ∧ (t = false → exec T C Q nt np b fr H nx K)
    | _ => False
  | .block id c, fr, H, nx, K => exec T C Q nt np c fr H nx (blkK id K)
  | .loop c, fr, H, nx, K => ∃ n, iter np (exec T C Q nt np c) K n fr H nx
  | .exit id, fr, H, nx, K => K (.exit id) fr H nx
  | .ret, fr, H, nx, K => K .ret fr H nx
  | .label _, fr, H, nx, K => K .normal fr H nx
  | _, _, _, _, _ => False

/-- The state of an act. -/
def Is (cx : Cx) (nt : Nat) (fr : Fr) (H : Hp) (nx : Nat) (a : Act) (w : World) : Prop :=
  ∃ r, St cx r H w ∧ FrOk cx r H w fr a.tmps ∧ (∀ k, nx ≤ k → r k = none) ∧ a.tmps.size = nt ∧ a.defers = []
def lift (cx : Cx) (nt : Nat) (K : Kt) (e : Exit) (a : Act) (w : World) : Prop := ∃ fr H nx, K e fr H nx ∧ Is cx nt fr H nx a w

section
variable {P : Program} {cx : Cx} {T : Tys} {C : Cs} {Q : Qs} {nt np : Nat}

/-- A region that does not draw. -/
theorem seq_region (hT : TysOk P T) (hC : CallsOk P C) {all : List Oper} {R : Exit → Act → World → Prop} : ∀ (os : List Oper) (rs : List Rec) (i : Nat) (fr : Fr) (H : Hp) (nx : Nat), Good T C nt all os rs fr H nx → (∀ j, os[j]? = all[i + j]?) →
    (∀ a w, Is cx nt (sel (fun _ => true) (frEs os rs) 0 fr) (sel (fun _ => true) (hpEs rs) 0 H) (nx + os.length) a w → R .normal a w) → ∀ a w, Is cx nt fr H nx a w → wpOps P all.toArray R (List.range' i os.length) a w := by
  have selS : ∀ {α : Type} (es : List (List (Nat × α))) (k k' : Nat) (b : List (Nat × α)), sel (fun _ => true) es k b = sel (fun _ => true) es k' b := by
    intro α es
    induction es with
    | nil => intro k k' b; rfl
    | cons e es ih => intro k k' b; rw [sel, sel]; exact ih _ _ _
  intro os
  induction os with
  | nil =>
    intro rs i fr H nx hg _ hQ a w hs
    cases rs with
    | nil => exact hQ a w hs
    | cons => exact hg.elim
  | cons o os ih =>
    intro rs i fr H nx hg hall hQ a w hs
    cases rs with
    | nil => exact hg.elim
    | cons rc rs =>
      obtain ⟨⟨hokd, hwt, hstep⟩, hg2⟩ := hg
      obtain ⟨r, st, hf, hnm, hts, hdf⟩ := hs
      have ho : all[i]? = some o := by simpa using (hall 0).symm
      have ho' : all.toArray[i]? = some o := by simpa using ho
      have e1 : sel (fun _ => true) (frEs (o :: os) (rc :: rs)) 0 fr = sel (fun _ => true) (frEs os rs) 0 (putD o.dst rc.val ++ fr) := by
        show sel _ (putD o.dst rc.val :: frEs os rs) 0 fr = _
        rw [sel, cond_true]; exact selS _ _ _ _
      have e2 : sel (fun _ => true) (hpEs (rc :: rs)) 0 H = sel (fun _ => true) (hpEs rs) 0 (rc.eff ++ H) := by
        show sel _ (rc.eff :: hpEs rs) 0 H = _
        rw [sel, cond_true]; exact selS _ _ _ _
      rw [e1, e2, List.length_cons, show nx + (os.length + 1) = nx + 1 + os.length by omega] at hQ
      have next : ∀ a w, Is cx nt (putD o.dst rc.val ++ fr) (rc.eff ++ H) (nx + 1) a w → wpOps P all.toArray R (List.range' (i + 1) os.length) a w :=
        fun a w hs => ih rs (i + 1) _ _ _ hg2 (fun j => by have := hall (j + 1); simp only [List.getElem?_cons_succ] at this; rw [this]; congr 1; omega) hQ a w hs
      have hrn : r nx = none := hnm nx (Nat.le_refl _)
      have hhn : hget H nx = none := by
        cases hh : hget H nx with
        | none => rfl
        | some e => obtain ⟨b, _, hb, _⟩ := st.blk _ e hh; rw [hrn] at hb; cases hb
      rw [List.length_cons, List.range'_succ, wpOps_cons]
      unfold wpOp
      simp only [ho', wanted_of hf hwt]
      cases hex : rc.ex with
      | true =>
        rw [hex] at hstep
        obtain ⟨sr, hss, hp, hv, he, hrd⟩ := hstep
        rw [if_pos rfl]
        refine .inl (step_ok hT hC hss hp st hf hrn hhn fun v w' hleft => ?_)
        obtain ⟨r', g1, g2, g3, g4⟩ := hleft
        rw [he] at g1 g2 g4
        rw [hv] at g4
        refine next _ _ ⟨r', g2, FrOk.put (hf.ext g1) (by rw [hts]; exact hokd) g4, fun k hk => ?_, by rw [put_tmps.1]; exact hts, by rw [put_tmps.2]; exact hdf⟩
        rw [g3 k (by omega)]
        exact hnm k (by omega)
      | false =>
        rw [hex] at hstep
        obtain ⟨hv, he, hrd⟩ := hstep
        rw [if_neg (by simp)]
        refine next _ _ ⟨r, by rw [he]; exact st, ?_, fun k hk => hnm k (by omega), by rw [put_tmps.1]; exact hts, by rw [put_tmps.2]; exact hdf⟩
        rw [he, hv]
        exact FrOk.put hf (by rw [hts]; exact hokd) ⟨#[], rfl, rfl, fun i x u h => by cases h⟩

theorem region_ok (hT : TysOk P T) (hC : CallsOk P C) (hL : CsLocal C) (hQ : QsOk C Q) (hm : P.follows .mixedOrders = true) {id : Nat} {ops : Array Oper} {draw : Bool} {fr : Fr} {H : Hp} {nx : Nat} {K : Kt}
    (h : exec T C Q nt np (.region id ops draw) fr H nx K) {a : Act} {w : World} (hs : Is cx nt fr H nx a w) : (Code.region id ops draw).wp P (lift cx nt K) a w := by
  unfold exec at h
  obtain ⟨rs, hg, hK⟩ := runR_good hQ _ _ _ _ _ _ _ h
  obtain ⟨hlen, _⟩ := Good.at _ _ _ _ _ hg
  have hrev : ((logOf rs).reverse ++ ([] : Log)).reverse = logOf rs := by simp
  rw [hrev] at hK
  cases draw with
  | false =>
    simp only [Bool.not_false, Bool.true_or, cond_true] at hK
    refine wp_region ?_
    have := seq_region (cx := cx) (R := lift cx nt K) hT hC ops.toList rs 0 fr H nx hg (fun j => by rw [Nat.zero_add]) (fun a w hs => ⟨_, _, _, hK, hs⟩) a w hs
    simpa [List.range_eq_range'] using this
  | true =>
    simp only [Bool.not_true, Bool.false_or] at hK
    cases hok : regOk ops.toList (logOf rs) with
    | false => rw [hok] at hK; exact hK.elim
    | true =>
      rw [hok, cond_true] at hK
      obtain ⟨r, st, hf, hnm, hts, hdf⟩ := hs
      obtain ⟨g1, g2⟩ := st.drew (w.drawn + 1)
      refine wp_region_any hm ?_
      have hrep : ∀ i, (Array.replicate ops.size false).getD i false = false := fun i => by
        rcases Nat.lt_or_ge i ops.size with h | h <;> simp [h]
      have e1 : sel (fun i => (Array.replicate ops.size false).getD i false) (frEs ops.toList rs) 0 fr = sel (fun _ => false) (frEs ops.toList rs) 0 fr := by simp only [hrep]
      have e2 : sel (fun i => (Array.replicate ops.size false).getD i false) (hpEs rs) 0 H = sel (fun _ => false) (hpEs rs) 0 H := by simp only [hrep]
      have h2 : ∀ {α : Type} (es : List (List (Nat × α))) (k : Nat) (x : List (Nat × α)), sel (fun _ => false) es k x = x := by
        intro α es
        induction es with
        | nil => intro k x; rfl
        | cons e es ih => intro k x; rw [sel]; exact ih _ _
      have hu : ∀ n, unl (List.replicate n false) = n := by
        intro n
        induction n with
        | zero => rfl
        | succ n ih => simp only [List.replicate_succ, unl, cond_false]; omega
      have := any_order (P := P) (cx := cx) (d0 := []) hT hC hL hg hok (Q := lift cx nt K) (fun a w r h1 h3 h4 h5 h6 => ⟨_, _, _, hK, r, h1, h3, h4, h5, h6⟩) ops.size (Array.replicate ops.size false) a { w with drawn := w.drawn + 1 } r
        (by simp [hu]) ⟨by simp, (fun i o _ h => by rw [hrep] at h; cases h), by rw [e2, h2]; exact g2, by rw [e1, e2, h2, h2]; exact hf.ext g1, fun k hk _ => hnm k hk, hts, hdf⟩
      simpa using this

theorem exec_ok (hT : TysOk P T) (hC : CallsOk P C) (hL : CsLocal C) (hQ : QsOk C Q) (hm : P.follows .mixedOrders = true) (hpin : ∀ k b, cx.pin k = some b → k < np) : ∀ (c : Code) (fr : Fr) (H : Hp) (nx : Nat) (K : Kt), exec T C Q nt np c fr H nx K → ∀ a w, Is cx nt fr H nx a w → c.wp P (lift cx nt K) a w := by
  intro c
  induction c with
  | skip => intro fr H nx K h a w hs; exact wp_skip ⟨_, _, _, h, hs⟩
  | region id ops draw => intro fr H nx K h a w hs; exact region_ok hT hC hL hQ hm h hs
  | seq x y ihx ihy =>
    intro fr H nx K h a w hs
    refine wp_seq (wp_mono (ihx _ _ _ _ h a w hs) fun e a' w' hq => ?_)
    obtain ⟨fr', H', nx', hk, hs'⟩ := hq
    cases e <;> first | exact ⟨fr', H', nx', hk, hs'⟩ | exact ihy _ _ _ _ hk a' w' hs'
  | cond c x y ihx ihy =>
    intro fr H nx K h a w hs
    unfold exec at h
    split at h
    · rename_i t hev
      have hs' := hs
      obtain ⟨r, st, hf, _⟩ := hs
      have hc := ev_ok hf c
      rw [hev] at hc
      have hc' : a.eval c = .bool t := hc
      cases t with
      | true => exact wp_cond_true hc' (ihx _ _ _ _ (h.1 rfl) a w hs')
      | false => exact wp_cond_false hc' (ihy _ _ _ _ (h.2 rfl) a w hs')
    · exact h.elim
  | block id c ih =>
    intro fr H nx K h a w hs
    refine wp_block (wp_mono (ih _ _ _ _ h a w hs) fun e a' w' hq => ?_)
    obtain ⟨fr', H', nx', hk, hs'⟩ := hq
    cases e with
    | exit id' =>
      simp only [blkK] at hk
      show (if id' = id then _ else _)
      by_cases hid : id' = id
      · rw [if_pos hid]
        subst hid
        rw [show Nat.beq id' id' = true by simp, cond_true] at hk
        exact ⟨_, _, _, hk, hs'⟩
      · rw [if_neg hid]
        have : Nat.beq id' id = false := by
          cases hb : Nat.beq id' id with
          | false => rfl
          | true => exact absurd (Nat.eq_of_beq_eq_true hb) hid
        rw [this, cond_false] at hk
        exact ⟨_, _, _, hk, hs'⟩
    | normal => exact ⟨_, _, _, hk, hs'⟩
    | goto l => exact ⟨_, _, _, hk, hs'⟩
    | ret => exact ⟨_, _, _, hk, hs'⟩
    | panic ch => exact ⟨_, _, _, hk, hs'⟩
    | outgrown => exact ⟨_, _, _, hk, hs'⟩
  | loop c ih =>
    intro fr H nx K h a w hs
    obtain ⟨n, hn⟩ := h
    refine wp_loop_rounds n ?_
    induction n generalizing fr H nx a w with
    | zero => exact hn.elim
    | succ n ihn =>
      obtain ⟨fr', H', nx', h0, h1, h2, h3⟩ := hn
      obtain ⟨r, st, hf, hnm, hts, hdf⟩ := hs
      obtain ⟨g1, g2, g3⟩ := weaken st hf (fun k b hk => Nat.lt_of_lt_of_le (hpin k b hk) (Nat.le_of_ble_eq_true h0)) h1 h2
      refine wp_mono (ih _ _ _ _ h3 a w ⟨_, g1, g2, g3, hts, hdf⟩) fun e a' w' hq => ?_
      obtain ⟨fr2, H2, nx2, hk, hs'⟩ := hq
      cases e <;> first | exact ⟨fr2, H2, nx2, hk, hs'⟩ | exact ihn _ _ _ _ _ hs' hk
  | exit id => intro fr H nx K h a w hs; exact wp_exit ⟨_, _, _, h, hs⟩
  | ret => intro fr H nx K h a w hs; exact wp_ret ⟨_, _, _, h, hs⟩
  | label l => intro fr H nx K h a w hs; exact wp_label ⟨_, _, _, h, hs⟩
  | rangeFunc => intro fr H nx K h a w hs; exact h.elim
  | scope => intro fr H nx K h a w hs; exact h.elim
  | goto => intro fr H nx K h a w hs; exact h.elim
  | refuse => intro fr H nx K h a w hs; exact h.elim

/-! ### Functions -/
def resE (T : Tys) (fr : Fr) (H : Hp) : ResultVar → Option EV
  | .tmp t => match fget fr t with
    | .e x => some x
    | _ => none
  | .cell a t =>
    match T t, fget fr a with
    | some ti, .e (.c (.ptr k off)) =>
      match hget H k with
      | some ⟨_, en, ef⟩ => match loadF ti (en - off) (fun j => ef (off + j)) [] with
        | some ⟨_, .e x, _, _⟩ => bif Nat.ble (off + ti.size) en && Nat.blt off en then some x else none
        | _ => none
      | none => none
    | _, _ => none
def resL (T : Tys) (fr : Fr) (H : Hp) : List ResultVar → Option (List EV)
  | [] => some []
  | x :: xs => match resE T fr H x, resL T fr H xs with
    | some y, some ys => some (y :: ys)
    | _, _ => none
def asF : List EV → FV
  | [x] => .e x
  | l => .tup l
/-- The result is at most the spec, and no more names are known. -/
structure Fin (x y : FV) : Prop where
  le : LeF 0 x y

def resS (tmps : Array Value) : ResultVar → Sem Value
  | .tmp t => pure (tmps.getD t undef)
  | .cell a t => do loadVar t (← asAddr (tmps.getD a undef))
theorem results_eq (fn : Func) (tmps : Array Value) : results fn tmps = (do let vs ← fn.results.mapM (resS tmps); pure (if h : vs.size = 1 then vs[0] else .tuple vs)) := by
  have : (fun | .tmp t => pure (tmps.getD t undef) | .cell a t => (do loadVar t (← asAddr (tmps.getD a undef))) : ResultVar → Sem Value) = resS tmps := by
    funext x; cases x <;> rfl
  rw [← this]
  rfl

theorem loadF_pre {ti : TI} {m : Nat} {g : Nat → CV} {rd : List Nat} {sr : SR} (h : loadF ti m g rd = some sr) (h1 : ti.size ≤ m) (h2 : 0 < m) : preOk sr.pre := by
  unfold loadF at h
  split at h
  · injection h with h; subst h; exact h1
  · injection h with h; subst h; exact h1
  · rw [CV.see_eq] at h; injection h with h; subst h; exact h2

theorem resE_ok (hT : TysOk P T) {r : Nat → Option Nat} {H : Hp} {w : World} {fr : Fr} {tmps : Array Value} (st : St cx r H w) (hf : FrOk cx r H w fr tmps) {x : ResultVar} {y : EV} (h : resE T fr H x = some y) :
    ∃ v, (resS tmps x).run P w = .ok v w ∧ y.rel r (own cx r H) w v := by
  cases x with
  | tmp t =>
    simp only [resE] at h
    split at h
    · rename_i z hz
      injection h with h
      subst h
      have := hf t
      rw [hz] at this
      exact ⟨_, rfl, this⟩
    · cases h
  | cell a t =>
    simp only [resE] at h
    split at h
    · rename_i ti k off ht ha
      split at h
      · rename_i et en ef he
        split at h
        · rename_i p z eff rd hl
          cases hb : (Nat.ble (off + ti.size) en && Nat.blt off en) with
          | false => rw [hb] at h; cases h
          | true =>
            rw [hb, cond_true] at h
            injection h with h
            subst h
            simp only [Bool.and_eq_true] at hb
            have b1 := Nat.le_of_ble_eq_true hb.1
            have b2 : off < en := Nat.le_of_ble_eq_true hb.2
            have hav := hf a
            rw [ha] at hav
            obtain ⟨b, hbn, hv⟩ := hav
            obtain ⟨v, g1, g2, g3⟩ := load_ok (hT t ti ht) hl (loadF_pre hl (by omega) (by omega)) (blk_cells st he hbn)
            refine ⟨v, ?_, g3⟩
            simp only [resS, Sem.run_bind, hv, asAddr, Sem.run_pure, Result.andThen_ok, g1]
        · cases h
      · cases h
    · cases h

theorem resL_ok (hT : TysOk P T) {r : Nat → Option Nat} {H : Hp} {w : World} {fr : Fr} {tmps : Array Value} (st : St cx r H w) (hf : FrOk cx r H w fr tmps) : ∀ (rv : List ResultVar) (l : List EV), resL T fr H rv = some l →
    ∃ vs : List Value, (rv.mapM (resS tmps)).run P w = .ok vs w ∧ vs.length = l.length ∧ ∀ (i : Nat) x u, l[i]? = some x → vs[i]? = some u → x.rel r (own cx r H) w u := by
  intro rv
  induction rv with
  | nil =>
    intro l h
    simp only [resL, Option.some.injEq] at h
    subst h
    exact ⟨[], rfl, rfl, fun i x u h => by cases i <;> cases h⟩
  | cons x xs ih =>
    intro l h
    simp only [resL] at h
    split at h
    · rename_i y ys h1 h2
      injection h with h
      subst h
      obtain ⟨v, g1, g2⟩ := resE_ok hT st hf h1
      obtain ⟨vs, g3, g4, g5⟩ := ih ys h2
      refine ⟨v :: vs, ?_, by simp [g4], fun i z u hz hu => ?_⟩
      · rw [List.mapM_cons]
        simp only [Sem.run_bind, g1, g3, Result.andThen_ok, Sem.run_pure]
      · cases i with
        | zero => simp only [List.getElem?_cons_zero, Option.some.injEq] at hz hu; subst hz hu; exact g2
        | succ i => exact g5 i z u (by simpa using hz) (by simpa using hu)
    · cases h

theorem results_ok (hT : TysOk P T) {r : Nat → Option Nat} {H : Hp} {w : World} {fr : Fr} {tmps : Array Value} (st : St cx r H w) (hf : FrOk cx r H w fr tmps) {fn : Func} {l : List EV} (h : resL T fr H fn.results.toList = some l) :
    ∃ v, (results fn tmps).run P w = .ok v w ∧ (asF l).rel r (own cx r H) w v := by
  obtain ⟨vs, h1, h2, h3⟩ := resL_ok hT st hf _ _ h
  have hm : (fn.results.mapM (resS tmps)).run P w = .ok vs.toArray w := by
    rw [Array.mapM_eq_mapM_toList, Sem.run_map, h1]
    rfl
  rw [results_eq, Sem.run_bind, hm, Result.andThen_ok, Sem.run_pure]
  refine ⟨_, rfl, ?_⟩
  match l, vs, h2 with
  | [x], [v], _ => exact h3 0 x v rfl rfl
  | [], [], _ => exact ⟨#[], rfl, rfl, fun i x u h => by cases i <;> cases h⟩
  | x :: y :: l, v :: u :: vs, h2 =>
    rw [dif_neg (by simp)]
    exact ⟨_, rfl, by simpa using h2, fun i z q hz hq => h3 i z q hz (by simpa using hq)⟩

def argFr : List FV → Nat → Fr
  | [], _ => []
  | x :: xs, i => (i, x) :: argFr xs (i + 1)
theorem argFr_get : ∀ (args : List FV) (i t : Nat), fget (argFr args i) t = if i ≤ t then (args[t - i]?).getD .top else .top := by
  intro args
  induction args with
  | nil => intro i t; simp [argFr, fget, look]
  | cons x xs ih =>
    intro i t
    by_cases h : t = i
    · subst h
      have : fget (argFr (x :: xs) t) t = x := look_cons_eq _ _ _ _
      rw [this]; simp
    · have : fget (argFr (x :: xs) i) t = fget (argFr xs (i + 1)) t := look_cons_ne _ _ _ h
      rw [this, ih]
      by_cases h2 : i + 1 ≤ t
      · rw [if_pos h2, if_pos (by omega), show t - i = (t - (i + 1)) + 1 by omega]; simp
      · rw [if_neg h2, if_neg (by omega)]

/-- The contract of a function that owns nothing at its beginning and keeps all that was there. -/
def PureOk (P : Program) (f : FuncId) (args : List FV) (spec : FV) : Prop :=
  ∀ r O w (vals : Array Value), RelL r O w args vals → (∀ b, O b → b < w.heap.size) → Calls P f vals w fun e w' => ∃ v, e = .returned v ∧ Below w.heap.size w w' ∧ spec.rel (fun _ => none) O w' v

def endH (T : Tys) (rv : List ResultVar) (post : FV → Hp → Prop) : Kt
  | .ret, fr, H, _ => match resL T fr H rv with
    | some l => post (asF l) H
    | none => False
  | .normal, fr, H, _ => match resL T fr H rv with
    | some l => post (asF l) H
    | none => False
  | _, _, _, _ => False

/-- A call, from the abstract run of the body. -/
theorem fn_run (hT : TysOk P T) (hC : CallsOk P C) (hL : CsLocal C) (hQ : QsOk C Q) (hm : P.follows .mixedOrders = true) {f : FuncId} {fn : Func} {c : Code} (hf : P.funcs[f]? = some fn) (hb : fn.body = some c) {args : List FV} (hn : args.length ≤ fn.ntmps) {H0 : Hp} {post : FV → Hp → Prop}
    (h : exec T C Q fn.ntmps np c (argFr args 0) H0 np (endH T fn.results.toList post)) (hpin : ∀ k b, cx.pin k = some b → k < np) {r : Nat → Option Nat} {w : World} {vals : Array Value} (st : St cx r H0 w) (hrel : RelL r (own cx r H0) w args vals) (hnm : ∀ k, np ≤ k → r k = none) :
    Calls P f vals w fun e w' => ∃ v r' x Hf, e = .returned v ∧ post x Hf ∧ St cx r' Hf w' ∧ x.rel r' (own cx r' Hf) w' v := by
  refine calls_of_wp hf hb ?_
  have hsz : vals.size = args.length := hrel.1
  have fr0 : FrOk cx r H0 w (argFr args 0) (vals ++ Array.replicate (fn.ntmps - vals.size) undef) := by
    intro t
    rw [argFr_get, if_pos (Nat.zero_le _), Nat.sub_zero]
    cases hx : args[t]? with
    | none => trivial
    | some x =>
      have hlt : t < vals.size := by rw [hsz]; exact (List.getElem?_eq_some_iff.1 hx).1
      have hv : vals[t]? = some vals[t] := Array.getElem?_eq_getElem hlt
      have e1 : (vals ++ Array.replicate (fn.ntmps - vals.size) undef).getD t undef = vals[t] := by
        rw [Array.getD_eq_getD_getElem?, Array.getElem?_append_left hlt, hv]; rfl
      rw [e1]
      exact hrel.2 t x _ hx hv
  refine wp_mono (exec_ok hT hC hL hQ hm hpin c _ _ _ _ h _ w ⟨_, st, fr0, hnm, by simp; omega, rfl⟩) fun e a' w' hq => ?_
  obtain ⟨fr, H, nx, hk, r', st', hfr, _, _, hdf⟩ := hq
  have main : ∀ l, resL T fr H fn.results.toList = some l → post (asF l) H → a'.defers = [] ∧ ∃ v, (results fn a'.tmps).run P w' = .ok v w' ∧ ∃ u r' x Hf, Ending.returned v = .returned u ∧ post x Hf ∧ St cx r' Hf w' ∧ x.rel r' (own cx r' Hf) w' u := by
    intro l hl hp
    obtain ⟨v, g1, g2⟩ := results_ok hT st' hfr hl
    exact ⟨hdf, v, g1, v, r', _, H, rfl, hp, st', g2⟩
  cases e with
  | ret =>
    simp only [endH] at hk
    split at hk
    · rename_i l hl; exact main l hl hk
    · exact hk.elim
  | normal =>
    simp only [endH] at hk
    split at hk
    · rename_i l hl; exact main l hl hk
    · exact hk.elim
  | exit => exact hk.elim
  | goto => exact hk.elim
  | panic => exact hk.elim
  | outgrown => exact hk.elim

theorem pure_intro (hT : TysOk P T) (hC : CallsOk P C) (hL : CsLocal C) (hQ : QsOk C Q) (hm : P.follows .mixedOrders = true) {f : FuncId} {fn : Func} {c : Code} (hf : P.funcs[f]? = some fn) (hb : fn.body = some c) (args : List FV) (hn : args.length ≤ fn.ntmps) (spec : FV)
    (hcl : ∀ x ∈ args, LeF 0 x x) (h : exec T C Q fn.ntmps 0 c (argFr args 0) [] 0 (endH T fn.results.toList fun x _ => Fin x spec)) : PureOk P f args spec := by
  intro r O w vals hrel hO
  have hres0 : ∀ r, res 0 r = fun _ => none := fun r => by funext k; simp [res]
  have st0 : St ⟨w, fun _ => False, O, fun _ => none⟩ (fun _ => none) [] w := ⟨rfl, rfl, rfl, Nat.le_refl _, fun _ _ _ => rfl, hO, fun _ _ h => (by cases h), fun _ _ _ h => (by cases h), fun _ _ h => (by cases h), fun _ _ h => (by cases h)⟩
  have hown : own ⟨w, fun _ => False, O, fun _ => none⟩ (fun _ => none) [] = O := by
    funext b
    simp [own, hget, look]
  refine (fn_run hT hC hL hQ hm hf hb hn h (fun _ _ h => by cases h) st0 (vals := vals) ⟨hrel.1, fun i x u hx hu => ?_⟩ (fun _ _ => rfl)).mono fun e w' he => ?_
  · have h1 := hcl x (List.mem_of_getElem? hx) _ _ _ _ (hrel.2 i x u hx hu)
    rw [hres0] at h1
    rw [hown]; exact h1
  · obtain ⟨v, r', x, Hf, rfl, hfin, st, hx⟩ := he
    refine ⟨v, rfl, ⟨st.os, st.tape, st.output, st.size, fun b hb => st.kept b hb id⟩, ?_⟩
    have h1 := hfin.le _ _ _ _ hx
    rw [hres0] at h1
    exact FV.rel_ext ⟨fun _ _ h => h, Nat.le_refl _, fun _ _ _ => rfl, fun b _ o => .inl o⟩ _ _ h1
end
end Go.Proofs.Ytolliidpmgncdaa.AX
