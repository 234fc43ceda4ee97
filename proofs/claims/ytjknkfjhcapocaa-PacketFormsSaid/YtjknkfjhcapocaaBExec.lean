/- Code in the abstract, and that it is sound. -/
import Derived.Test.YtjknkfjhcapocaaBAny
import Derived.LoopN
namespace Go.Proofs.Ytjknkfjhcapocaa.AX
open Go.RowKit
set_option linter.unusedVariables false
set_option linter.unusedSimpArgs false

/-! ### Weaker states -/
/-- From one state to a weaker one: the heap before and after; which names (after) stand for which names (before); the first free name. -/
structure Wc where
  H : Hp
  H' : Hp
  rho : List (Nat × Option Nat)
  nx : Nat
  fin : Bool := false
def lookR : List (Nat × Option Nat) → Nat → Option (Option Nat)
  | [], _ => none
  | (k, v) :: rest, t => bif Nat.beq t k then some v else lookR rest t
/-- What a name (after) stood for before. -/
def Wc.src (c : Wc) (k : Nat) : Option Nat :=
  match lookR c.rho k with
  | some o => o
  | none => bif Nat.blt k c.nx then some k else none
def Wc.ren (c : Wc) (r : Ren) (k : Nat) : Option Bi :=
  match c.src k with
  | some k0 => r k0
  | none => none
/-- The blocks that no slice may lie in behind the step: the owned ones; at a call's end those that no shared slice may lie in, too. -/
def Wc.wr (c : Wc) (cx : Cx) (r : Ren) (b : Nat) : Prop := AX.wr (c.ren r) c.H' b ∨ (c.fin = true ∧ cx.X b)
/-- Each name that lives behind the step lived before it. -/
def Wc.Live (c : Wc) : Prop := ∀ k e', hget c.H' k = some e' → ∀ k0, c.src k = some k0 → ∃ e, hget c.H k0 = some e
def LeC (c : Wc) (x y : CV) : Prop := c.Live → ∀ cx r w v, St cx r c.H w → x.rel r cx.X (wr r c.H) w v → y.rel (c.ren r) cx.X (c.wr cx r) w v
def LeE (c : Wc) (x y : EV) : Prop := c.Live → ∀ cx r w v, St cx r c.H w → x.rel r cx.X (wr r c.H) w v → y.rel (c.ren r) cx.X (c.wr cx r) w v
def LeF (c : Wc) (x y : FV) : Prop := c.Live → ∀ cx r w v, St cx r c.H w → x.rel r cx.X (wr r c.H) w v → y.rel (c.ren r) cx.X (c.wr cx r) w v
structure LeN (c : Wc) (e e' : Ent) : Prop where
  t : e.t = e'.t
  n : e.n = e'.n
  sz : e.sz = e'.sz
  v : e.v = e'.v
  f : ∀ i, i < e.n → ∀ j, j < e.sz → LeC c (e.f i j) (e'.f i j)
def WkF (c : Wc) (fr : Fr) : Fr → Prop
  | [] => True
  | (t, v) :: rest => LeF c (fget fr t) v ∧ WkF c fr rest
def WkE (c : Wc) (e' : Ent) (o : Option Nat) : Prop :=
  match o with
  | some k0 => match hget c.H k0 with
    | some e => LeN c e e'
    | none => False
  | none => e'.n = 0 ∧ e'.v = false ∧ 0 < e'.sz
def WkH (c : Wc) : Hp → Prop
  | [] => True
  | (_, none) :: rest => WkH c rest
  | (k, some e') :: rest => (Nat.blt k c.nx = true ∧ WkE c e' (c.src k)) ∧ WkH c rest
/-- The names that live behind the step stand for different names. -/
def srcs (c : Wc) : Hp → List Nat
  | [] => []
  | (_, none) :: rest => srcs c rest
  | (k, some _) :: rest => (c.src k).toList ++ srcs c rest
def nodupN : List Nat → Bool
  | [] => true
  | k :: l => !(l.any (Nat.beq k)) && nodupN l
/-- The names of rho lie between the fast ones and the free ones. -/
def rhoOk (np : Nat) (c : Wc) : Bool := (c.rho.all fun p => Nat.ble np p.1 && Nat.blt p.1 c.nx) && nodupN (srcs c c.H')

theorem WkF.at {c : Wc} {fr : Fr} : ∀ {fr' : Fr}, WkF c fr fr' → ∀ t, LeF c (fget fr t) (fget fr' t) := by
  intro fr'
  induction fr' with
  | nil => intro _ t _ cx r w v _ _; trivial
  | cons p fr' ih =>
    obtain ⟨k, x⟩ := p
    rintro ⟨h1, h2⟩ t
    by_cases ht : t = k
    · subst ht
      have : fget ((t, x) :: fr') t = x := look_cons_eq _ _ _ _
      rw [this]; exact h1
    · have : fget ((k, x) :: fr') t = fget fr' t := look_cons_ne _ _ _ ht
      rw [this]; exact ih h2 t
theorem WkH.at {c : Wc} : ∀ {H' : Hp}, WkH c H' → ∀ k e', hget H' k = some e' → k < c.nx ∧ WkE c e' (c.src k) := by
  intro H'
  induction H' with
  | nil => intro _ k e' h; cases h
  | cons p H' ih =>
    obtain ⟨k0, x⟩ := p
    intro h k e' he
    by_cases hk : k = k0
    · subst hk
      have e1 : hget ((k, x) :: H') k = x := look_cons_eq _ _ _ _
      rw [e1] at he
      subst he
      exact ⟨Nat.le_of_ble_eq_true h.1.1, h.1.2⟩
    · have e1 : hget ((k0, x) :: H') k = hget H' k := look_cons_ne _ _ _ hk
      rw [e1] at he
      cases x with
      | none => exact ih h k e' he
      | some x => exact ih h.2 k e' he
theorem WkH.live {c : Wc} (h : WkH c c.H') : c.Live := fun k e' he k0 hk0 => by
  obtain ⟨_, h1⟩ := h.at k e' he
  rw [hk0] at h1
  unfold WkE at h1
  simp only at h1
  split at h1
  · rename_i e hh; exact ⟨e, hh⟩
  · exact h1.elim
theorem srcs_mem {c : Wc} {k k0 : Nat} (hs : c.src k = some k0) : ∀ {H' : Hp} {e' : Ent}, hget H' k = some e' → k0 ∈ srcs c H' := by
  intro H'
  induction H' with
  | nil => intro e' h; cases h
  | cons p H' ih =>
    obtain ⟨k1, x⟩ := p
    intro e' he
    by_cases hk : k = k1
    · subst hk
      have e1 : hget ((k, x) :: H') k = x := look_cons_eq _ _ _ _
      rw [e1] at he
      subst he
      simp [srcs, hs]
    · have e1 : hget ((k1, x) :: H') k = hget H' k := look_cons_ne _ _ _ hk
      rw [e1] at he
      cases x with
      | none => exact ih he
      | some x => simp only [srcs]; exact List.mem_append_right _ (ih he)
theorem srcs_inj {c : Wc} : ∀ {H' : Hp}, nodupN (srcs c H') = true → ∀ k m e e' k0, hget H' k = some e → hget H' m = some e' → c.src k = some k0 → c.src m = some k0 → k = m := by
  intro H'
  induction H' with
  | nil => intro _ k m e e' k0 h; cases h
  | cons p H' ih =>
    obtain ⟨k1, x⟩ := p
    intro hn k m e e' k0 hk hm sk sm
    have ne : ∀ j, j ≠ k1 → hget ((k1, x) :: H') j = hget H' j := fun j hj => look_cons_ne _ _ _ hj
    cases x with
    | none =>
      have e0 : hget ((k1, none) :: H') k1 = none := look_cons_eq _ _ _ _
      by_cases h1 : k = k1
      · subst h1; rw [e0] at hk; cases hk
      · by_cases h2 : m = k1
        · subst h2; rw [e0] at hm; cases hm
        · rw [ne k h1] at hk; rw [ne m h2] at hm
          exact ih hn k m e e' k0 hk hm sk sm
    | some x =>
      have tail : ∀ j ej, j ≠ k1 → hget ((k1, some x) :: H') j = some ej → c.src j = some k0 → c.src k1 = some k0 → False := fun j ej hj hej sj s1 => by
        rw [ne j hj] at hej
        have hmem := srcs_mem sj hej
        simp only [srcs, s1, Option.toList_some, List.singleton_append, nodupN, Bool.and_eq_true, Bool.not_eq_true'] at hn
        have : (srcs c H').any (Nat.beq k0) = true := List.any_eq_true.2 ⟨k0, hmem, by simp⟩
        rw [hn.1] at this; cases this
      by_cases h1 : k = k1
      · by_cases h2 : m = k1
        · omega
        · subst h1; exact (tail m e' h2 hm sm sk).elim
      · by_cases h2 : m = k1
        · subst h2; exact (tail k e h1 hk sk sm).elim
        · rw [ne k h1] at hk; rw [ne m h2] at hm
          refine ih ?_ k m e e' k0 hk hm sk sm
          simp only [srcs] at hn
          cases hs : c.src k1 with
          | none => rw [hs] at hn; exact hn
          | some q =>
            rw [hs] at hn
            simp only [Option.toList_some, List.singleton_append, nodupN, Bool.and_eq_true] at hn
            exact hn.2

theorem lookR_mem : ∀ {l : List (Nat × Option Nat)} {k : Nat} {o : Option Nat}, lookR l k = some o → ∃ p ∈ l, p.1 = k := by
  intro l
  induction l with
  | nil => intro k o h; cases h
  | cons p l ih =>
    obtain ⟨k1, v⟩ := p
    intro k o h
    simp only [lookR] at h
    cases hb : Nat.beq k k1 with
    | true => exact ⟨(k1, v), List.mem_cons_self .., (Nat.eq_of_beq_eq_true hb).symm⟩
    | false =>
      rw [hb, cond_false] at h
      obtain ⟨p, hp, hk⟩ := ih h
      exact ⟨p, List.mem_cons_of_mem _ hp, hk⟩

theorem weaken {cx : Cx} {r : Ren} {w : World} {fr : Fr} {tmps : Array Value} {c : Wc} {np : Nat} (st : St cx r c.H w) (hf : FrOk cx r c.H w fr tmps) {fr' : Fr} (h0 : ∀ k b, cx.pin k = some b → k < np) (hnp : Nat.ble np c.nx = true) (hrho : rhoOk np c = true) (hfin : c.fin = false) (h1 : WkF c fr fr') (h2 : WkH c c.H') :
    St cx (c.ren r) c.H' w ∧ FrOk cx (c.ren r) c.H' w fr' tmps ∧ (∀ k, c.nx ≤ k → c.ren r k = none ∧ hget c.H' k = none) ∧ ∀ k, k < np → c.ren r k = r k := by
  simp only [rhoOk, Bool.and_eq_true] at hrho
  have hlive := h2.live
  have hwr : c.wr cx r = wr (c.ren r) c.H' := by funext b; simp [Wc.wr, hfin]
  have hkeys : ∀ k o, lookR c.rho k = some o → np ≤ k ∧ k < c.nx := fun k o h => by
    obtain ⟨p, hp, rfl⟩ := lookR_mem h
    have := List.all_eq_true.1 hrho.1 p hp
    simp only [Bool.and_eq_true] at this
    exact ⟨Nat.le_of_ble_eq_true this.1, Nat.le_of_ble_eq_true this.2⟩
  have hren : ∀ k x, c.ren r k = some x → ∃ k0, c.src k = some k0 ∧ r k0 = some x := fun k x h => by
    unfold Wc.ren at h
    split at h
    · rename_i k0 hk0; exact ⟨k0, hk0, h⟩
    · cases h
  refine ⟨⟨st.os, st.tape, st.output, st.size, st.kept, st.xlt, fun k x h => ?_, fun k e' x he hx => ?_, fun n m e e' x y hn hm hx hy hxy => ?_, fun k b hk => ?_, fun k e' he => ?_⟩, fun t => by rw [← hwr]; exact h1.at t hlive cx r w _ st (hf t), fun k hk => ⟨?_, ?_⟩, fun k hk => ?_⟩
  · obtain ⟨k0, _, h⟩ := hren k x h
    exact st.dom k0 x h
  · obtain ⟨k0, s1, hx⟩ := hren k x hx
    obtain ⟨e1, l1⟩ := hlive k e' he k0 s1
    exact st.ow k0 e1 x l1 hx
  · obtain ⟨n0, s1, hx⟩ := hren n x hx
    obtain ⟨m0, s2, hy⟩ := hren m y hy
    obtain ⟨e1, l1⟩ := hlive n e hn n0 s1
    obtain ⟨e2, l2⟩ := hlive m e' hm m0 s2
    have := st.inj n0 m0 e1 e2 x y l1 l2 hx hy hxy
    subst this
    exact srcs_inj hrho.2 n m e e' n0 hn hm s1 s2
  · have hlt := h0 k b hk
    have hl : lookR c.rho k = none := by
      cases hl : lookR c.rho k with
      | none => rfl
      | some o => have := hkeys k o hl; omega
    have hs : c.src k = some k := by
      unfold Wc.src
      rw [hl]
      have : Nat.blt k c.nx = true := Nat.ble_eq_true_of_le (Nat.lt_of_lt_of_le hlt (Nat.le_of_ble_eq_true hnp))
      simp only [this, cond_true]
    unfold Wc.ren
    rw [hs]
    exact st.pin k b hk
  · obtain ⟨hlt, hw⟩ := h2.at k e' he
    cases hs : c.src k with
    | none =>
      rw [hs] at hw
      obtain ⟨g1, g2, g3⟩ := hw
      exact ⟨g3, (fun h => by rw [g2] at h; cases h), .inl ⟨by unfold Wc.ren; rw [hs], g1⟩⟩
    | some k0 =>
      rw [hs] at hw
      unfold WkE at hw
      simp only at hw
      split at hw
      · rename_i e hh
        obtain ⟨g1, g2, g3⟩ := st.blk k0 e hh
        have hrk : c.ren r k = r k0 := by unfold Wc.ren; rw [hs]
        refine ⟨by rw [← hw.sz]; exact g1, (fun h => by rw [← hw.n]; exact g2 (by rw [hw.v]; exact h)), ?_⟩
        rcases g3 with ⟨g3, g4⟩ | ⟨x, cs, c1, c2, c3, c4, c5, c6⟩
        · exact .inl ⟨by rw [hrk]; exact g3, by rw [← hw.n]; exact g4⟩
        · refine .inr ⟨x, cs, by rw [hrk]; exact c1, by rw [← hw.sz]; exact c2, by rw [← hw.t]; exact c3, c4, by rw [← hw.n]; exact c5, fun i hi j hj u hu => ?_⟩
          rw [← hw.n] at hi
          rw [← hw.sz] at hj hu
          rw [← hwr]
          exact hw.f i hi j hj hlive cx r w u st (c6 i hi j hj u hu)
      · exact hw.elim
  · unfold Wc.ren Wc.src
    cases hl : lookR c.rho k with
    | some o => have := hkeys k o hl; omega
    | none =>
      have : Nat.blt k c.nx = false := by
        cases hb : Nat.blt k c.nx with
        | false => rfl
        | true => have := Nat.le_of_ble_eq_true hb; omega
      simp only [this, cond_false]
  · cases hh : hget c.H' k with
    | none => rfl
    | some e' => have := (h2.at k e' hh).1; omega
  · have hl : lookR c.rho k = none := by
      cases hl : lookR c.rho k with
      | none => rfl
      | some o => have := hkeys k o hl; omega
    unfold Wc.ren Wc.src
    rw [hl]
    have : Nat.blt k c.nx = true := Nat.ble_eq_true_of_le (Nat.lt_of_lt_of_le hk (Nat.le_of_ble_eq_true hnp))
    simp only [this, cond_true]

/-! ### Code -/
abbrev Kt := Exit → Fr → Hp → Nat → Prop
def seqK (next : Fr → Hp → Nat → Prop) (K : Kt) : Kt
  | .normal, fr, H, nx => next fr H nx
  | e, fr, H, nx => K e fr H nx
def blkK (id : Nat) (K : Kt) : Kt
  | .exit id', fr, H, nx => bif Nat.beq id' id then K .normal fr H nx else K (.exit id') fr H nx
  | e, fr, H, nx => K e fr H nx
def iter (np : Nat) (R : Fr → Hp → Nat → Kt → Prop) (K : Kt) : Nat → Fr → Hp → Nat → Prop
  | 0, _, _, _ => False
  | n + 1, fr, H, nx => ∃ fr' H' rho nx', Nat.ble np nx' = true ∧ rhoOk np ⟨H, H', rho, nx', false⟩ = true ∧ WkF ⟨H, H', rho, nx', false⟩ fr fr' ∧ WkH ⟨H, H', rho, nx', false⟩ H' ∧ R fr' H' nx' (seqK (iter np R K n) K)

def exec (T : Tys) (Q : Qs) (wd nt np : Nat) : Code → Fr → Hp → Nat → Kt → Prop
  | .skip, fr, H, nx, K => K .normal fr H nx
  | .region _ ops draw, fr, H, nx, K => runR T Q wd nt ops.toList ops.toList 0 fr H nx [] fun fr H nx log => bif !draw || regOkA ops.toList log.reverse then K .normal fr H nx else False
  | .seq a b, fr, H, nx, K => exec T Q wd nt np a fr H nx (seqK (fun fr H nx => exec T Q wd nt np b fr H nx K) K)
  | .cond c a b, fr, H, nx, K =>
    match ev fr c with
    | .e (.c (.bool t)) => (t = true → exec T Q wd nt np a fr H nx K) ∧ (t = false → exec T Q wd nt np b fr H nx K)
    | _ => False
  | .block id c, fr, H, nx, K => exec T Q wd nt np c fr H nx (blkK id K)
  | .loop c, fr, H, nx, K => ∃ n, iter np (exec T Q wd nt np c) K n fr H nx
  | .exit id, fr, H, nx, K => K (.exit id) fr H nx
  | .ret, fr, H, nx, K => K .ret fr H nx
  | .label _, fr, H, nx, K => K .normal fr H nx
  | _, _, _, _, _ => False

/-- The state of an act. -/
def Is (cx : Cx) (nt np : Nat) (fx : Ren) (fr : Fr) (H : Hp) (nx : Nat) (a : Act) (w : World) : Prop :=
  ∃ r, St cx r H w ∧ FrOk cx r H w fr a.tmps ∧ (∀ k, nx ≤ k → r k = none ∧ hget H k = none) ∧ a.tmps.size = nt ∧ a.defers = [] ∧ np ≤ nx ∧ ∀ k, k < np → r k = fx k
def lift (cx : Cx) (nt np : Nat) (fx : Ren) (K : Kt) (e : Exit) (a : Act) (w : World) : Prop := ∃ fr H nx, K e fr H nx ∧ Is cx nt np fx fr H nx a w

section
variable {P : Program} {cx : Cx} {T : Tys} {Q : Qs} {wd nt np : Nat} {fx : Ren}

/-- A region that does not draw. -/
theorem seq_region (hT : TysOk P T) (hwd : 0 < wd) {all : List Oper} {R : Exit → Act → World → Prop} : ∀ (os : List Oper) (rs : List Rec) (i : Nat) (fr : Fr) (H : Hp) (nx : Nat), Good P T wd nt all os rs fr H nx → (∀ j, os[j]? = all[i + j]?) →
    (∀ a w, Is cx nt np fx (sel (fun _ => true) (frEs os rs) 0 fr) (sel (fun _ => true) (hpEs rs) 0 H) (nx + wd * os.length) a w → R .normal a w) → ∀ a w, Is cx nt np fx fr H nx a w → wpOps P all.toArray R (List.range' i os.length) a w := by
  have selS : ∀ {α : Type} (es : List (List (Nat × α))) (k k' : Nat) (b : List (Nat × α)), sel (fun _ => true) es k b = sel (fun _ => true) es k' b := by
    intro α es
    induction es with
    | nil => intro k k' b; rfl
    | cons e es ih => intro k k' b; rw [sel, sel]; exact ih _ _ _
  intro os
  induction os with
  | nil =>
    intro rs i fr H nx hg _ hQ a w hs
    cases rs with
    | nil => exact hQ a w hs
    | cons => exact hg.elim
  | cons o os ih =>
    intro rs i fr H nx hg hall hQ a w hs
    cases rs with
    | nil => exact hg.elim
    | cons rc rs =>
      obtain ⟨⟨hokd, hwt, hstep⟩, hg2⟩ := hg
      obtain ⟨r, st, hf, hnm, hts, hdf, hnp, hfx⟩ := hs
      have ho : all[i]? = some o := by simpa using (hall 0).symm
      have ho' : all.toArray[i]? = some o := by simpa using ho
      have e1 : sel (fun _ => true) (frEs (o :: os) (rc :: rs)) 0 fr = sel (fun _ => true) (frEs os rs) 0 (putD o.dst rc.val ++ fr) := by
        show sel _ (putD o.dst rc.val :: frEs os rs) 0 fr = _
        rw [sel, cond_true]; exact selS _ _ _ _
      have e2 : sel (fun _ => true) (hpEs (rc :: rs)) 0 H = sel (fun _ => true) (hpEs rs) 0 (rc.eff ++ H) := by
        show sel _ (rc.eff :: hpEs rs) 0 H = _
        rw [sel, cond_true]; exact selS _ _ _ _
      rw [e1, e2, List.length_cons, show nx + wd * (os.length + 1) = nx + wd + wd * os.length by rw [Nat.mul_add, Nat.mul_one]; omega] at hQ
      have next : ∀ a w, Is cx nt np fx (putD o.dst rc.val ++ fr) (rc.eff ++ H) (nx + wd) a w → wpOps P all.toArray R (List.range' (i + 1) os.length) a w :=
        fun a w hs => ih rs (i + 1) _ _ _ hg2 (fun j => by have := hall (j + 1); simp only [List.getElem?_cons_succ] at this; rw [this]; congr 1; omega) hQ a w hs
      have hfree : Free r H nx wd := fun k h1 _ => hnm k h1
      rw [List.length_cons, List.range'_succ, wpOps_cons]
      unfold wpOp
      simp only [ho', wanted_of hf hwt]
      cases hex : rc.ex with
      | true =>
        rw [hex] at hstep
        obtain ⟨sr, hss, hv, he, hrd⟩ := hstep
        rw [if_pos rfl]
        refine .inl (stp_ok hT hss st hf hfree (fun _ => hnm) hwd fun v w' hleft => ?_)
        obtain ⟨r', g1, g2, g3, g5, g4⟩ := hleft
        rw [he] at g1 g2 g4 g5
        rw [hv] at g4
        refine next _ _ ⟨r', g2, FrOk.put (hf.ext g1) (by rw [hts]; exact hokd) g4, fun k hk => ?_, by rw [put_tmps.1]; exact hts, by rw [put_tmps.2]; exact hdf, by omega, fun k hk => (g3 k (.inl (by omega))).trans (hfx k hk)⟩
        rw [g3 k (by omega)]
        refine ⟨(hnm k (by omega)).1, ?_⟩
        cases hh : hget (rc.eff ++ H) k with
        | none => rfl
        | some e =>
          rcases g5 k e hh with h | ⟨e', h⟩
          · have := h.2; omega
          · rw [(hnm k (by omega)).2] at h; cases h
      | false =>
        rw [hex] at hstep
        obtain ⟨hv, he, hrd⟩ := hstep
        rw [if_neg (by simp)]
        refine next _ _ ⟨r, by rw [he]; exact st, ?_, (fun k hk => by rw [he]; exact hnm k (by omega)), by rw [put_tmps.1]; exact hts, by rw [put_tmps.2]; exact hdf, by omega, hfx⟩
        rw [he, hv]
        exact FrOk.put hf (by rw [hts]; exact hokd) ⟨#[], rfl, rfl, fun i x u h => by cases h⟩

theorem region_ok (hwd : 0 < wd) (hT : TysOk P T) (hQ : QsOk P Q) (hm : P.follows .mixedOrders = true) {id : Nat} {ops : Array Oper} {draw : Bool} {fr : Fr} {H : Hp} {nx : Nat} {K : Kt}
    (h : exec T Q wd nt np (.region id ops draw) fr H nx K) {a : Act} {w : World} (hs : Is cx nt np fx fr H nx a w) : (Code.region id ops draw).wp P (lift cx nt np fx K) a w := by
  unfold exec at h
  obtain ⟨rs, hg, hK⟩ := runR_good hwd hQ _ _ _ _ _ _ _ h
  obtain ⟨hlen, _⟩ := Good.at _ _ _ _ _ hg
  have hrev : ((logOf rs).reverse ++ ([] : Log)).reverse = logOf rs := by simp
  rw [hrev] at hK
  cases draw with
  | false =>
    simp only [Bool.not_false, Bool.true_or, cond_true] at hK
    refine wp_region ?_
    have := seq_region (cx := cx) (R := lift cx nt np fx K) hT hwd ops.toList rs 0 fr H nx hg (fun j => by rw [Nat.zero_add]) (fun a w hs => ⟨_, _, _, hK, hs⟩) a w hs
    simpa [List.range_eq_range'] using this
  | true =>
    simp only [Bool.not_true, Bool.false_or] at hK
    cases hokA : regOkA ops.toList (logOf rs) with
    | false => rw [hokA] at hK; exact hK.elim
    | true =>
      rw [hokA, cond_true] at hK
      unfold regOkA at hokA
      simp only [Bool.and_eq_true, Bool.not_eq_true'] at hokA
      obtain ⟨hok, hno⟩ := hokA
      have hno : ∀ rc ∈ rs, ALLN ∉ rc.rd := fun rc hrc hm => by
        have : (logOf rs).any (fun l => memN l.2 ALLN) = true := List.any_eq_true.2 ⟨_, List.mem_map.2 ⟨rc, hrc, rfl⟩, memN_of hm⟩
        rw [hno] at this; cases this
      obtain ⟨r, st, hf, hnm, hts, hdf, hnp, hfx⟩ := hs
      obtain ⟨g1, g2⟩ := st.drew (w.drawn + 1)
      refine wp_region_any hm ?_
      have hrep : ∀ i, (Array.replicate ops.size false).getD i false = false := fun i => by
        rcases Nat.lt_or_ge i ops.size with h | h <;> simp [h]
      have e1 : sel (fun i => (Array.replicate ops.size false).getD i false) (frEs ops.toList rs) 0 fr = sel (fun _ => false) (frEs ops.toList rs) 0 fr := by simp only [hrep]
      have e2 : sel (fun i => (Array.replicate ops.size false).getD i false) (hpEs rs) 0 H = sel (fun _ => false) (hpEs rs) 0 H := by simp only [hrep]
      have h2 : ∀ {α : Type} (es : List (List (Nat × α))) (k : Nat) (x : List (Nat × α)), sel (fun _ => false) es k x = x := by
        intro α es
        induction es with
        | nil => intro k x; rfl
        | cons e es ih => intro k x; rw [sel]; exact ih _ _
      have hu : ∀ n, unl (List.replicate n false) = n := by
        intro n
        induction n with
        | zero => rfl
        | succ n ih => simp only [List.replicate_succ, unl, cond_false]; omega
      have := any_order (P := P) (cx := cx) (d0 := []) hT hwd hg hok hno (fx := r) (Q := lift cx nt np fx K) (fun a w r' h1 h3 h4 h5 h6 h7 => ⟨_, _, _, hK, r', h1, h3, h4, h5, h6, by omega, fun k hk => (h7 k (by omega)).trans (hfx k hk)⟩) ops.size (Array.replicate ops.size false) a { w with drawn := w.drawn + 1 } r
        (by simp [hu]) ⟨by simp, (fun i o _ h => by rw [hrep] at h; cases h), by rw [e2, h2]; exact g2, by rw [e1, e2, h2, h2]; exact hf.ext g1, (fun k hk _ => by rw [e2, h2]; exact hnm k hk), hts, hdf, fun _ _ => rfl⟩
      simpa using this

theorem exec_ok (hwd : 0 < wd) (hT : TysOk P T) (hQ : QsOk P Q) (hm : P.follows .mixedOrders = true) (hpin : ∀ k b, cx.pin k = some b → k < np) : ∀ (c : Code) (fr : Fr) (H : Hp) (nx : Nat) (K : Kt), exec T Q wd nt np c fr H nx K → ∀ a w, Is cx nt np fx fr H nx a w → c.wp P (lift cx nt np fx K) a w := by
  intro c
  induction c with
  | skip => intro fr H nx K h a w hs; exact wp_skip ⟨_, _, _, h, hs⟩
  | region id ops draw => intro fr H nx K h a w hs; exact region_ok hwd hT hQ hm h hs
  | seq x y ihx ihy =>
    intro fr H nx K h a w hs
    refine wp_seq (wp_mono (ihx _ _ _ _ h a w hs) fun e a' w' hq => ?_)
    obtain ⟨fr', H', nx', hk, hs'⟩ := hq
    cases e <;> first | exact ⟨fr', H', nx', hk, hs'⟩ | exact ihy _ _ _ _ hk a' w' hs'
  | cond c x y ihx ihy =>
    intro fr H nx K h a w hs
    unfold exec at h
    split at h
    · rename_i t hev
      have hs' := hs
      obtain ⟨r, st, hf, _⟩ := hs
      have hc := ev_ok hf c
      rw [hev] at hc
      have hc' : a.eval c = .bool t := hc
      cases t with
      | true => exact wp_cond_true hc' (ihx _ _ _ _ (h.1 rfl) a w hs')
      | false => exact wp_cond_false hc' (ihy _ _ _ _ (h.2 rfl) a w hs')
    · exact h.elim
  | block id c ih =>
    intro fr H nx K h a w hs
    refine wp_block (wp_mono (ih _ _ _ _ h a w hs) fun e a' w' hq => ?_)
    obtain ⟨fr', H', nx', hk, hs'⟩ := hq
    cases e with
    | exit id' =>
      simp only [blkK] at hk
      show (if id' = id then _ else _)
      by_cases hid : id' = id
      · rw [if_pos hid]
        subst hid
        rw [show Nat.beq id' id' = true by simp, cond_true] at hk
        exact ⟨_, _, _, hk, hs'⟩
      · rw [if_neg hid]
        have : Nat.beq id' id = false := by
          cases hb : Nat.beq id' id with
          | false => rfl
          | true => exact absurd (Nat.eq_of_beq_eq_true hb) hid
        rw [this, cond_false] at hk
        exact ⟨_, _, _, hk, hs'⟩
    | normal => exact ⟨_, _, _, hk, hs'⟩
    | goto l => exact ⟨_, _, _, hk, hs'⟩
    | ret => exact ⟨_, _, _, hk, hs'⟩
    | panic ch => exact ⟨_, _, _, hk, hs'⟩
    | outgrown => exact ⟨_, _, _, hk, hs'⟩
  | loop c ih =>
    intro fr H nx K h a w hs
    obtain ⟨n, hn⟩ := h
    refine wp_loop_rounds n ?_
    induction n generalizing fr H nx a w with
    | zero => exact hn.elim
    | succ n ihn =>
      obtain ⟨fr', H', rho, nx', h0, hrho, h1, h2, h3⟩ := hn
      obtain ⟨r, st, hf, hnm, hts, hdf, hnp, hfx⟩ := hs
      obtain ⟨g1, g2, g3, g4⟩ := weaken (c := ⟨H, H', rho, nx', false⟩) st hf hpin h0 hrho rfl h1 h2
      refine wp_mono (ih _ _ _ _ h3 a w ⟨_, g1, g2, g3, hts, hdf, Nat.le_of_ble_eq_true h0, fun k hk => (g4 k hk).trans (hfx k hk)⟩) fun e a' w' hq => ?_
      obtain ⟨fr2, H2, nx2, hk, hs'⟩ := hq
      cases e <;> first | exact ⟨fr2, H2, nx2, hk, hs'⟩ | exact ihn _ _ _ _ _ hs' hk
  | exit id => intro fr H nx K h a w hs; exact wp_exit ⟨_, _, _, h, hs⟩
  | ret => intro fr H nx K h a w hs; exact wp_ret ⟨_, _, _, h, hs⟩
  | label l => intro fr H nx K h a w hs; exact wp_label ⟨_, _, _, h, hs⟩
  | rangeFunc => intro fr H nx K h a w hs; exact h.elim
  | scope => intro fr H nx K h a w hs; exact h.elim
  | goto => intro fr H nx K h a w hs; exact h.elim
  | refuse => intro fr H nx K h a w hs; exact h.elim

/-! ### Functions -/
def resE (T : Tys) (fr : Fr) (H : Hp) : ResultVar → Option EV
  | .tmp t => match fget fr t with
    | .e x => some x
    | _ => none
  | .cell a t =>
    match T t, fget fr a with
    | some ti, .e (.c (.ptr k i j _)) =>
      match hget H k with
      | some ⟨_, en, es, _, ef⟩ => bif Nat.ble (j + ti.size) es && Nat.blt j es && Nat.blt i en then
        match loadF ti (es - j) (fun q => ef i (j + q)) false none [] with
        | some ⟨_, .e x, _, _⟩ => some x
        | _ => none
        else none
      | none => none
    | _, _ => none
def resL (T : Tys) (fr : Fr) (H : Hp) : List ResultVar → Option (List EV)
  | [] => some []
  | x :: xs => match resE T fr H x, resL T fr H xs with
    | some y, some ys => some (y :: ys)
    | _, _ => none
def asF : List EV → FV
  | [x] => .e x
  | l => .tup l

def resS (tmps : Array Value) : ResultVar → Sem Value
  | .tmp t => pure (tmps.getD t undef)
  | .cell a t => do loadVar t (← asAddr (tmps.getD a undef))
theorem results_eq (fn : Func) (tmps : Array Value) : results fn tmps = (do let vs ← fn.results.mapM (resS tmps); pure (if h : vs.size = 1 then vs[0] else .tuple vs)) := by
  have : (fun | .tmp t => pure (tmps.getD t undef) | .cell a t => (do loadVar t (← asAddr (tmps.getD a undef))) : ResultVar → Sem Value) = resS tmps := by
    funext x; cases x <;> rfl
  rw [← this]
  rfl

theorem loadF_pre {ti : TI} {m : Nat} {g : Nat → CV} {rd : List Nat} {sr : SR} (h : loadF ti m g false none rd = some sr) (h1 : ti.size ≤ m) (h2 : 0 < m) : preOk sr.pre := by
  unfold loadF at h
  split at h
  · injection h with h; subst h; exact h1
  · injection h with h; subst h; exact h1
  · rw [CV.see_eq] at h; injection h with h; subst h; exact h2

theorem resE_ok (hT : TysOk P T) {r : Ren} {H : Hp} {w : World} {fr : Fr} {tmps : Array Value} (st : St cx r H w) (hf : FrOk cx r H w fr tmps) {x : ResultVar} {y : EV} (h : resE T fr H x = some y) :
    ∃ v, (resS tmps x).run P w = .ok v w ∧ y.rel r cx.X (wr r H) w v := by
  cases x with
  | tmp t =>
    simp only [resE] at h
    split at h
    · rename_i z hz
      injection h with h
      subst h
      have := hf t
      rw [hz] at this
      exact ⟨_, rfl, this⟩
    · cases h
  | cell a t =>
    simp only [resE] at h
    split at h
    · rename_i ti k i j sym ht ha
      split at h
      · rename_i et en es v ef he
        cases hb : (Nat.ble (j + ti.size) es && Nat.blt j es && Nat.blt i en) with
        | false => rw [hb] at h; cases h
        | true =>
          rw [hb, cond_true] at h
          simp only [Bool.and_eq_true] at hb
          have b1 := Nat.le_of_ble_eq_true hb.1.1
          have b2 : j < es := Nat.le_of_ble_eq_true hb.1.2
          have b3 : i < en := Nat.le_of_ble_eq_true hb.2
          split at h
          · rename_i p z eff rd hl
            injection h with h
            subst h
            have hav := hf a
            rw [ha] at hav
            obtain ⟨b, hbn, hv⟩ := hav
            obtain ⟨v, g1, g2, g3⟩ := load_ok (P := P) (b := b.b) (off := i * b.sz + j) (hT t ti ht) hl (loadF_pre hl (by omega) (by omega)) (fun _ q hq => by
              obtain ⟨u, hu, hr⟩ := blk_cell st he hbn (i := i) (j := j + q) b3 (show j + q < es by omega)
              exact ⟨u, by rw [Nat.add_assoc]; exact hu, hr⟩)
            refine ⟨v, ?_, g3⟩
            simp only [resS, Sem.run_bind, hv, asAddr, Sem.run_pure, Result.andThen_ok, g1]
          · cases h
      · cases h
    · cases h

theorem resL_ok (hT : TysOk P T) {r : Ren} {H : Hp} {w : World} {fr : Fr} {tmps : Array Value} (st : St cx r H w) (hf : FrOk cx r H w fr tmps) : ∀ (rv : List ResultVar) (l : List EV), resL T fr H rv = some l →
    ∃ vs : List Value, (rv.mapM (resS tmps)).run P w = .ok vs w ∧ vs.length = l.length ∧ ∀ (i : Nat) x u, l[i]? = some x → vs[i]? = some u → x.rel r cx.X (wr r H) w u := by
  intro rv
  induction rv with
  | nil =>
    intro l h
    simp only [resL, Option.some.injEq] at h
    subst h
    exact ⟨[], rfl, rfl, fun i x u h => by cases i <;> cases h⟩
  | cons x xs ih =>
    intro l h
    simp only [resL] at h
    split at h
    · rename_i y ys h1 h2
      injection h with h
      subst h
      obtain ⟨v, g1, g2⟩ := resE_ok hT st hf h1
      obtain ⟨vs, g3, g4, g5⟩ := ih ys h2
      refine ⟨v :: vs, ?_, by simp [g4], fun i z u hz hu => ?_⟩
      · rw [List.mapM_cons]
        simp only [Sem.run_bind, g1, g3, Result.andThen_ok, Sem.run_pure]
      · cases i with
        | zero => simp only [List.getElem?_cons_zero, Option.some.injEq] at hz hu; subst hz hu; exact g2
        | succ i => exact g5 i z u (by simpa using hz) (by simpa using hu)
    · cases h

theorem results_ok (hT : TysOk P T) {r : Ren} {H : Hp} {w : World} {fr : Fr} {tmps : Array Value} (st : St cx r H w) (hf : FrOk cx r H w fr tmps) {fn : Func} {l : List EV} (h : resL T fr H fn.results.toList = some l) :
    ∃ v, (results fn tmps).run P w = .ok v w ∧ (asF l).rel r cx.X (wr r H) w v := by
  obtain ⟨vs, h1, h2, h3⟩ := resL_ok hT st hf _ _ h
  have hm : (fn.results.mapM (resS tmps)).run P w = .ok vs.toArray w := by
    rw [Array.mapM_eq_mapM_toList, Sem.run_map, h1]
    rfl
  rw [results_eq, Sem.run_bind, hm, Result.andThen_ok, Sem.run_pure]
  refine ⟨_, rfl, ?_⟩
  match l, vs, h2 with
  | [x], [v], _ => exact h3 0 x v rfl rfl
  | [], [], _ => exact ⟨#[], rfl, rfl, fun i x u h => by cases i <;> cases h⟩
  | x :: y :: l, v :: u :: vs, h2 =>
    rw [dif_neg (by simp)]
    exact ⟨_, rfl, by simpa using h2, fun i z q hz hq => h3 i z q hz (by simpa using hq)⟩

def argFr : List FV → Nat → Fr
  | [], _ => []
  | x :: xs, i => (i, x) :: argFr xs (i + 1)
theorem argFr_get : ∀ (args : List FV) (i t : Nat), fget (argFr args i) t = if i ≤ t then (args[t - i]?).getD .top else .top := by
  intro args
  induction args with
  | nil => intro i t; simp [argFr, fget, look]
  | cons x xs ih =>
    intro i t
    by_cases h : t = i
    · subst h
      have : fget (argFr (x :: xs) t) t = x := look_cons_eq _ _ _ _
      rw [this]; simp
    · have : fget (argFr (x :: xs) i) t = fget (argFr xs (i + 1)) t := look_cons_ne _ _ _ h
      rw [this, ih]
      by_cases h2 : i + 1 ≤ t
      · rw [if_pos h2, if_pos (by omega), show t - i = (t - (i + 1)) + 1 by omega]; simp
      · rw [if_neg h2, if_neg (by omega)]

/-- What a run's end has to give. -/
def endH (T : Tys) (rv : List ResultVar) (post : FV → Hp → Nat → Prop) : Kt
  | .ret, fr, H, nx => match resL T fr H rv with
    | some l => post (asF l) H nx
    | none => False
  | .normal, fr, H, nx => match resL T fr H rv with
    | some l => post (asF l) H nx
    | none => False
  | _, _, _, _ => False

/-- A call, from the abstract run of the body. -/
theorem fn_run (hwd : 0 < wd) (hT : TysOk P T) (hQ : QsOk P Q) (hm : P.follows .mixedOrders = true) {f : FuncId} {fn : Func} {c : Code} (hf : P.funcs[f]? = some fn) (hb : fn.body = some c) {args : List FV} (hn : args.length ≤ fn.ntmps) {H0 : Hp} {post : FV → Hp → Nat → Prop}
    (h : exec T Q wd fn.ntmps np c (argFr args 0) H0 np (endH T fn.results.toList post)) (hpin : ∀ k b, cx.pin k = some b → k < np) {r : Ren} {w : World} {vals : Array Value} (st : St cx r H0 w) (hrel : RelL r cx.X (wr r H0) w args vals) (hnm : ∀ k, np ≤ k → r k = none ∧ hget H0 k = none) :
    Calls P f vals w fun e w' => ∃ v r' x Hf nf, e = .returned v ∧ post x Hf nf ∧ St cx r' Hf w' ∧ (∀ k, nf ≤ k → r' k = none ∧ hget Hf k = none) ∧ x.rel r' cx.X (wr r' Hf) w' v ∧ ∀ k, k < np → r' k = r k := by
  refine calls_of_wp hf hb ?_
  have hsz : vals.size = args.length := hrel.1
  have fr0 : FrOk cx r H0 w (argFr args 0) (vals ++ Array.replicate (fn.ntmps - vals.size) undef) := by
    intro t
    rw [argFr_get, if_pos (Nat.zero_le _), Nat.sub_zero]
    cases hx : args[t]? with
    | none => trivial
    | some x =>
      have hlt : t < vals.size := by rw [hsz]; exact (List.getElem?_eq_some_iff.1 hx).1
      have hv : vals[t]? = some vals[t] := Array.getElem?_eq_getElem hlt
      have e1 : (vals ++ Array.replicate (fn.ntmps - vals.size) undef).getD t undef = vals[t] := by
        rw [Array.getD_eq_getD_getElem?, Array.getElem?_append_left hlt, hv]; rfl
      rw [e1]
      exact hrel.2 t x _ hx hv
  refine wp_mono (exec_ok (fx := r) hwd hT hQ hm hpin c _ _ _ _ h _ w ⟨_, st, fr0, hnm, by simp; omega, rfl, Nat.le_refl _, fun _ _ => rfl⟩) fun e a' w' hq => ?_
  obtain ⟨fr, H, nx, hk, r', st', hfr, hnm', _, hdf, _, hfx'⟩ := hq
  have main : ∀ l, resL T fr H fn.results.toList = some l → post (asF l) H nx → a'.defers = [] ∧ ∃ v, (results fn a'.tmps).run P w' = .ok v w' ∧ ∃ u r' x Hf nf, Ending.returned v = .returned u ∧ post x Hf nf ∧ St cx r' Hf w' ∧ (∀ k, nf ≤ k → r' k = none ∧ hget Hf k = none) ∧ x.rel r' cx.X (wr r' Hf) w' u ∧ ∀ k, k < np → r' k = r k := by
    intro l hl hp
    obtain ⟨v, g1, g2⟩ := results_ok hT st' hfr hl
    exact ⟨hdf, v, g1, v, r', _, H, nx, rfl, hp, st', hnm', g2, hfx'⟩
  cases e with
  | ret =>
    simp only [endH] at hk
    split at hk
    · rename_i l hl; exact main l hl hk
    · exact hk.elim
  | normal =>
    simp only [endH] at hk
    split at hk
    · rename_i l hl; exact main l hl hk
    · exact hk.elim
  | exit => exact hk.elim
  | goto => exact hk.elim
  | panic => exact hk.elim
  | outgrown => exact hk.elim
end
end Go.Proofs.Ytjknkfjhcapocaa.AX
