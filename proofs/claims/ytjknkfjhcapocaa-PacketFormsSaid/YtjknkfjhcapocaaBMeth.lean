/- Contracts of functions whose first argument points to a variable of the caller's; calls that are walked through in place. -/
import Derived.Test.YtjknkfjhcapocaaBFn
namespace Go.Proofs.Ytjknkfjhcapocaa.AX
open Go.RowKit
set_option linter.unusedVariables false

theorem CV.rel_sub {X W X' W' : Nat → Prop} {r : Ren} {w : World} (hX : ∀ b, X' b → X b ∨ W b) (hW : ∀ b, W' b → W b) : ∀ (x : CV) (v : Value), x.rel r X W w v → x.rel r X' W' w v := by
  intro x
  induction x with
  | top => intro v h; exact h
  | int => intro v h; exact h
  | bool => intro v h; exact h
  | ptr nm i j s => intro v h; exact h
  | nilp => intro v h; exact h
  | nils => intro v h; exact h
  | sl sh n sz f ih =>
    rintro v ⟨a, cap, rfl, h1, h2⟩
    refine ⟨a, cap, rfl, h1, fun h0 => ?_⟩
    obtain ⟨ad, rfl, hs, ho, hx, hlt, hc⟩ := h2 h0
    refine ⟨ad, rfl, hs, fun h => ho (hW _ h), fun e h => (hX _ h).elim (hx e) ho, hlt, fun i hi j hj => ?_⟩
    obtain ⟨u, hu, hr⟩ := hc i hi j hj
    exact ⟨u, hu, ih i j u hr⟩
  | rp sh m g ih =>
    rintro v ⟨ad, rfl, hs, ho, hx, hlt, hc⟩
    refine ⟨ad, rfl, hs, fun h => ho (hW _ h), fun e h => (hX _ h).elim (hx e) ho, hlt, fun j hj => ?_⟩
    obtain ⟨u, hu, hr⟩ := hc j hj
    exact ⟨u, hu, ih j u hr⟩
  | os nm i n => intro v h; exact h
  | oa nm i j n es => intro v h; exact h
  | fn f n m a ih =>
    rintro v ⟨fs, cs, rfl, h1, h2, h3, h4⟩
    exact ⟨fs, cs, rfl, h1, h2, fun k u hu => ih k u (h3 k u hu), fun k u hu => ih _ u (h4 k u hu)⟩

/-- The contract: the block's entry e turns to e', the result is val. -/
def MethOk (P : Program) (f : FuncId) (rest : List FV) (e : Ent) (val : FV) (e' : Ent) : Prop :=
  ∀ X w (x : Bi) (vals : Array Value), x.b < w.heap.size → ¬ X x.b → (∀ b, X b → b < w.heap.size) → EntIn (fun _ => none) X (fun b => b = x.b) w e (some x) w.heap → RelL (at0 (some x)) X (fun b => b = x.b) w (.e (.c (.ptr 0 0 0 false)) :: rest) vals →
    Calls P f vals w fun en w' => ∃ v, en = .returned v ∧ w'.os = w.os ∧ w'.tape = w.tape ∧ w'.output = w.output ∧ w.heap.size ≤ w'.heap.size ∧ (∀ b, b < w.heap.size → b ≠ x.b → w'.heap[b]? = w.heap[b]?) ∧
      EntIn (fun _ => none) X (orB X (some x)) w' e' (some x) w'.heap ∧ val.rel (fun _ => none) X (orB X (some x)) w' v
structure FinM (val : FV) (e' : Ent) (x : FV) (H : Hp) : Prop where
  le : LeF ⟨H, [(0, some e')], [], 1, true⟩ x val
  ent : WkE ⟨H, [(0, some e')], [], 1, true⟩ e' (some 0)
def NFF (x : FV) : Prop := ∀ r r' X W w v, x.rel r X W w v → x.rel r' X W w v

section
variable {P : Program} {T : Tys} {Q : Qs} {wd : Nat}
theorem meth_intro (hwd : 0 < wd) (hT : TysOk P T) (hQ : QsOk P Q) (hm : P.follows .mixedOrders = true) {f : FuncId} {fn : Func} {c : Code} (hf : P.funcs[f]? = some fn) (hb : fn.body = some c) (rest : List FV) (hn : rest.length + 1 ≤ fn.ntmps) {e e' : Ent} {val : FV}
    (hval : NFF val) (hnf : ∀ i, i < e'.n → ∀ j, j < e'.sz → NF (e'.f i j)) (h : exec T Q wd fn.ntmps 1 c (argFr (.e (.c (.ptr 0 0 0 false)) :: rest) 0) [(0, some e)] 1 (endH T fn.results.toList fun x H _ => FinM val e' x H)) : MethOk P f rest e val e' := by
  intro X w x vals hxb hxX hX hent hrel
  have hwr : wr (at0 (some x)) [(0, some e)] = fun b => b = x.b := by
    funext b
    apply propext
    constructor
    · rintro ⟨k, e1, y, _, hy, rfl⟩
      unfold at0 at hy
      split at hy
      · injection hy with hy; rw [hy]
      · cases hy
    · rintro rfl
      exact ⟨0, e, x, look_cons_eq _ _ _ _, if_pos rfl, rfl⟩
  have hk0 : ∀ k e1, hget [(0, some e)] k = some e1 → k = 0 ∧ e1 = e := fun k e1 h => by
    by_cases hk : k = 0
    · subst hk
      have : hget [(0, some e)] 0 = some e := look_cons_eq _ _ _ _
      rw [this] at h; injection h with h; exact ⟨rfl, h.symm⟩
    · have : hget [(0, some e)] k = none := look_cons_ne _ _ _ hk
      rw [this] at h; cases h
  have st0 : St ⟨w, fun b => b = x.b, fun b => b = x.b, X, at0 (some x)⟩ (at0 (some x)) [(0, some e)] w := by
    refine ⟨rfl, rfl, rfl, Nat.le_refl _, fun _ _ _ => rfl, hX, fun k y hy => ?_, fun k e1 y _ hy => ?_, fun n m e1 e2 y z h1 h2 _ _ _ => ?_, fun k b hk => hk, fun k e1 he1 => ?_⟩
    · unfold at0 at hy
      split at hy
      · injection hy with hy; subst hy; exact ⟨hxb, .inr rfl, hxX⟩
      · cases hy
    · unfold at0 at hy
      split at hy
      · injection hy with hy; subst hy; exact .inr rfl
      · cases hy
    · rw [(hk0 n e1 h1).1, (hk0 m e2 h2).1]
    · obtain ⟨rfl, rfl⟩ := hk0 k e1 he1
      rw [hwr]
      obtain ⟨c1, c2, c3⟩ := hent
      refine ⟨c1, c2, c3.imp id ?_⟩
      rintro ⟨y, cs, d1, d2, d3, d4, d5, d6⟩
      exact ⟨y, cs, d1, d2, d3, d4, d5, fun i hi j hj u hu => CV.rel_ext ⟨fun _ _ h => (by cases h), Nat.le_refl _, fun _ _ _ => rfl, fun _ _ h => h⟩ _ _ (d6 i hi j hj u hu)⟩
  refine (fn_run (np := 1) hwd hT hQ hm hf hb (by simpa using hn) h (fun k b hk => by
      have hk' : (if k = 0 then some x else none) = some b := hk
      split at hk'
      · omega
      · cases hk') st0 (by rw [hwr]; exact hrel) (fun k hk => ⟨if_neg (by omega), look_cons_ne _ _ _ (by omega)⟩)).mono fun en w' he => ?_
  obtain ⟨v, r', y, Hf, nf, rfl, ⟨hfin, hent'⟩, st, _, hy, _⟩ := he
  have hr0 : r' 0 = some x := st.pin 0 x (show (if 0 = 0 then some x else none) = some x from if_pos rfl)
  have hren : ∀ k, Wc.ren ⟨Hf, [(0, some e')], [], 1, true⟩ r' k = at0 (some x) k := fun k => by
    unfold Wc.ren Wc.src at0
    simp only [lookR]
    by_cases hk : k = 0
    · subst hk
      have h2 : Nat.blt 0 1 = true := rfl
      simp [h2, hr0]
    · have h2 : Nat.blt k 1 = false := by
        cases hb : Nat.blt k 1 with
        | false => rfl
        | true => have := Nat.le_of_ble_eq_true hb; omega
      simp [h2, hk]
  have hren : Wc.ren ⟨Hf, [(0, some e')], [], 1, true⟩ r' = at0 (some x) := funext hren
  unfold WkE at hent'
  simp only at hent'
  split at hent'
  · rename_i e2 hh
    have hlive : Wc.Live ⟨Hf, [(0, some e')], [], 1, true⟩ := fun k e1 he1 k0 hk0' => by
      have hk : k = 0 := by
        by_cases hk : k = 0
        · exact hk
        · have : hget [(0, some e')] k = none := look_cons_ne _ _ _ hk
          have he1' : hget [(0, some e')] k = some e1 := he1
          rw [this] at he1'; cases he1'
      subst hk
      have : Wc.src ⟨Hf, [(0, some e')], [], 1, true⟩ 0 = some 0 := rfl
      rw [this] at hk0'; injection hk0' with hk0'; subst hk0'
      exact ⟨e2, hh⟩
    have hwr2 : ∀ b, orB X (some x) b → Wc.wr ⟨Hf, [(0, some e')], [], 1, true⟩ ⟨w, fun b => b = x.b, fun b => b = x.b, X, at0 (some x)⟩ r' b := fun b hb => by
      rcases hb with hb | ⟨z, hz, hzb⟩
      · exact .inr ⟨rfl, hb⟩
      · injection hz with hz; subst hz
        exact .inl ⟨0, e', x, look_cons_eq _ _ _ _, by rw [hren]; exact if_pos rfl, hzb⟩
    refine ⟨v, rfl, st.os, st.tape, st.output, st.size, fun b hb hne => st.kept b hb hne, ?_, ?_⟩
    · obtain ⟨g1, g2, g3⟩ := st.blk 0 e2 hh
      refine ⟨by rw [← hent'.sz]; exact g1, (fun h => by rw [← hent'.n]; exact g2 (by rw [hent'.v]; exact h)), ?_⟩
      rcases g3 with ⟨g3, g4⟩ | ⟨z, cs, c1, c2, c3, c4, c5, c6⟩
      · rw [hr0] at g3; cases g3
      · rw [hr0] at c1; injection c1 with c1; subst c1
        refine .inr ⟨x, cs, rfl, by rw [← hent'.sz]; exact c2, by rw [← hent'.t]; exact c3, c4, by rw [← hent'.n]; exact c5, fun i hi j' hj u hu => ?_⟩
        have hi' := hi
        have hj' := hj
        rw [← hent'.n] at hi
        rw [← hent'.sz] at hj hu
        have h1 := hent'.f i hi j' hj hlive _ r' w' u st (c6 i hi j' hj u hu)
        exact CV.rel_w hwr2 _ _ (hnf i hi' j' hj' _ _ _ _ _ _ h1)
    · have h1 := hfin hlive _ r' w' v st hy
      exact FV.rel_w hwr2 _ _ (hval _ _ _ _ _ _ h1)
  · exact hent'.elim
end

theorem callR_meth {P : Program} {f : FuncId} (hb : hasBody P f) {k : Nat} {s : Bool} {rest rest' : List FV} {H : Hp} {rd : List Nat} {nm wd : Nat} {e e' : Ent} {val : FV} (hk : hget H k = some e) (hv : e.v = true) (hkr : k ∉ rd) (hnf : ∀ i, i < e.n → ∀ j, j < e.sz → NF (e.f i j))
    (hbo : ∀ H', (∀ k ∈ rd, hget H k = hget H' k) → BoL H' rd rest rest') (h : MethOk P f rest' e val e') (he' : e'.v = true) : CallR P f (.e (.c (.ptr k 0 0 s)) :: rest) H nm wd ⟨none, val, [(k, some e')], k :: rd⟩ := by
  refine ⟨hb, fun H' hh cx r w vals st hfr _ hrel => ?_⟩
  obtain ⟨h1, h2⟩ := hbo H' (fun k hk => hh k (List.mem_cons_of_mem _ hk))
  have hk' : hget H' k = some e := by rw [← hh k (List.mem_cons_self ..)]; exact hk
  obtain ⟨g1, g2, g3⟩ := st.blk k e hk'
  rcases g3 with ⟨_, g4⟩ | ⟨x, cs, c1, c2, c3, c4, c5, c6⟩
  · have := g2 hv; omega
  · obtain ⟨d1, d2, d3⟩ := st.dom k x c1
    have hXx : ¬ (cx.X x.b ∨ wrBut r H' [k] x.b) := by
      rintro (hX | ⟨k2, e2, y, he2, hy, hyb, hne⟩)
      · exact d3 hX
      · have := st.inj k2 k e2 e y x he2 hk' hy c1 hyb
        exact hne (by rw [this]; exact List.mem_singleton.2 rfl)
    have hsubX : ∀ b, (cx.X b ∨ wrBut r H' [k] b) → cx.X b ∨ wr r H' b := by
      rintro b (hX | ⟨k2, e2, y, he2, hy, hyb, _⟩)
      · exact .inl hX
      · exact .inr ⟨k2, e2, y, he2, hy, hyb⟩
    have hsubW : ∀ b, b = x.b → wr r H' b := fun b hb => ⟨k, e, x, hk', c1, hb.symm⟩
    have hXlt : ∀ b, (cx.X b ∨ wrBut r H' [k] b) → b < w.heap.size := fun b hb => by
      rcases hsubX b hb with hx | ⟨k2, e2, y, _, hy, rfl⟩
      · exact Nat.lt_of_lt_of_le (st.xlt b hx) st.size
      · exact (st.dom k2 y hy).1
    refine (h (fun b => cx.X b ∨ wrBut r H' [k] b) w x vals d1 hXx hXlt ?_ ⟨by rw [hrel.1]; simp [h1], fun i y u hy hu => ?_⟩).mono fun en w' he => ?_
    · refine ⟨g1, g2, .inr ⟨x, cs, rfl, c2, c3, c4, c5, fun i hi j hj u hu => ?_⟩⟩
      exact CV.rel_sub hsubX hsubW _ _ (hnf i hi j hj _ _ _ _ _ _ (c6 i hi j hj u hu))
    · cases i with
      | zero =>
        simp only [List.getElem?_cons_zero, Option.some.injEq] at hy
        subst hy
        obtain ⟨z, hz, hzv⟩ := hrel.2 0 _ u rfl hu
        rw [c1] at hz; injection hz with hz; subst hz
        exact ⟨x, if_pos rfl, hzv⟩
      | succ i =>
        have hy' : rest'[i]? = some y := by simpa using hy
        have hi : i < rest.length := by rw [h1]; exact (List.getElem?_eq_some_iff.1 hy').1
        have h3 := h2 i _ y (List.getElem?_eq_getElem hi) hy' cx r w u st (hrel.2 (i + 1) _ u (by simp [List.getElem?_eq_getElem hi]) hu)
        have h4 : y.rel (at0 (some x)) (fun b => cx.X b ∨ wr r H' b) (wrBut r H' rd) w u := FV.rel_ext ⟨fun _ _ h => (by cases h), Nat.le_refl _, fun _ _ _ => rfl, fun _ _ h => h⟩ _ _ h3
        have h5 : y.rel (at0 (some x)) (fun b => cx.X b ∨ wr r H' b) (fun b => b = x.b) w u := FV.rel_w (fun b hb => ⟨k, e, x, hk', c1, hb.symm, hkr⟩) _ _ h4
        cases y with
        | top => trivial
        | e y =>
          cases y with
          | c y => exact CV.rel_sub (fun b hb => .inl (hsubX b hb)) (fun b hb => hb) _ _ h5
          | agg n g => obtain ⟨cs', e1, e2, e3⟩ := h5; exact ⟨cs', e1, e2, fun i u hu => CV.rel_sub (fun b hb => .inl (hsubX b hb)) (fun b hb => hb) _ _ (e3 i u hu)⟩
        | tup l =>
          obtain ⟨vs, e1, e2, e3⟩ := h5
          refine ⟨vs, e1, e2, fun i z u hz hu => ?_⟩
          have := e3 i z u hz hu
          cases z with
          | c z => exact CV.rel_sub (fun b hb => .inl (hsubX b hb)) (fun b hb => hb) _ _ this
          | agg n g => obtain ⟨cs', e1, e2, e3⟩ := this; exact ⟨cs', e1, e2, fun i u hu => CV.rel_sub (fun b hb => .inl (hsubX b hb)) (fun b hb => hb) _ _ (e3 i u hu)⟩
    · obtain ⟨v, rfl, o1, o2, o3, o4, o5, o6, o7⟩ := he
      have hY : ∀ b, cx.X b ∨ wr r H' b → orB (fun b => cx.X b ∨ wrBut r H' [k] b) (some x) b := by
        rintro b (hX | ⟨k2, e2, y, he2, hy, hyb⟩)
        · exact .inl (.inl hX)
        · by_cases hk2 : k2 = k
          · subst hk2; rw [c1] at hy; injection hy with hy; subst hy; exact .inr ⟨x, rfl, hyb⟩
          · exact .inl (.inr ⟨k2, e2, y, he2, hy, hyb, fun hm => hk2 (List.mem_singleton.1 hm)⟩)
      have hl0 : hget ((k, some e') :: H') k = some e' := look_cons_eq _ _ _ _
      have hl : ∀ j, j ≠ k → hget ((k, some e') :: H') j = hget H' j := fun j hj => look_cons_ne _ _ _ hj
      have live : ∀ j e1, hget ((k, some e') :: H') j = some e1 → ∃ e2, hget H' j = some e2 := fun j e1 hj => by
        by_cases hjk : j = k
        · subst hjk; exact ⟨e, hk'⟩
        · rw [hl j hjk] at hj; exact ⟨e1, hj⟩
      have hwr2 : ∀ b, wr r ((k, some e') :: H') b → wr r H' b := by
        rintro b ⟨j, e1, y, h1, h2, h3⟩
        obtain ⟨e2, h1⟩ := live j e1 h1
        exact ⟨j, e2, y, h1, h2, h3⟩
      have hE : Ext r (wr r H') w r (wr r ((k, some e') :: H')) w' := ⟨fun _ _ h => h, o4, fun b hb hw => o5 b hb fun hbx => hw ⟨k, e, x, hk', c1, hbx.symm⟩, fun b _ hb => hwr2 b hb⟩
      refine ⟨v, rfl, r, hE, ⟨o1.trans st.os, o2.trans st.tape, o3.trans st.output, Nat.le_trans st.size o4, fun b hb hne => ?_, st.xlt, fun j y hy => ?_, fun j e1 y hj hy => ?_, fun n m e1 e2 y z h1 h2 hy hz hyz => ?_, st.pin, fun j e1 hj => ?_⟩, fun _ _ => rfl, fun j e1 hj => .inr (live j e1 hj), ?_⟩
      · rw [← st.kept b hb hne]
        refine o5 b (Nat.lt_of_lt_of_le hb st.size) fun hbx => ?_
        rcases st.ow k e x hk' c1 with h | h
        · omega
        · exact hne (hbx ▸ h)
      · obtain ⟨a1, a2, a3⟩ := st.dom j y hy
        exact ⟨Nat.lt_of_lt_of_le a1 o4, a2, a3⟩
      · obtain ⟨e2, hj⟩ := live j e1 hj
        exact st.ow j e2 y hj hy
      · obtain ⟨e1', h1⟩ := live n e1 h1
        obtain ⟨e2', h2⟩ := live m e2 h2
        exact st.inj n m e1' e2' y z h1 h2 hy hz hyz
      · have hj' : hget ((k, some e') :: H') j = some e1 := hj
        by_cases hjk : j = k
        · subst hjk
          rw [hl0] at hj'; injection hj' with hj'; subst hj'
          rw [c1]
          obtain ⟨a1, a2, a3⟩ := o6
          refine ⟨a1, a2, a3.imp id ?_⟩
          rintro ⟨y, cs', b1, b2, b3, b4, b5, b6⟩
          exact ⟨y, cs', b1, b2, b3, b4, b5, fun i hi q hq u hu => CV.rel_into (fun b hb => hY b (.inl hb)) (fun b hb => hY b (.inr (hwr2 b hb))) _ _ (b6 i hi q hq u hu)⟩
        · rw [hl j hjk] at hj'
          have hold := st.old hj' rfl (w' := w') fun y hy => o5 _ (st.dom j y hy).1 fun hyx => hjk (st.inj j k e1 e y x hj' hk' hy c1 hyx)
          exact hold.ext hE
      · exact FV.rel_into (fun b hb => hY b (.inl hb)) (fun b hb => hY b (.inr (hwr2 b hb))) _ _ o7

/-- The entry of such a function: outcomes are told by a set S of results and entries. -/
def methE {α : Type} (A : AC α) (p : Ent → α → Prop) (S : Ent → α → FV → Ent → Prop) : Entry := fun args H _ _ =>
  match args with
  | .e (.c (.ptr k 0 0 _)) :: rest =>
    match hget H k with
    | some e => match A.dec H rest with
      | some (a, q, rd) => bif e.v && !(rd.any (Nat.beq k)) then some fun K => pAnd q (p e a ∧ ∀ v e', S e a v e' → K v [(k, some e')] (k :: rd)) else none
      | none => none
    | none => none
  | _ => none
theorem methE_ok {α : Type} {A : AC α} {p : Ent → α → Prop} {S : Ent → α → FV → Ent → Prop} {P : Program} {f : FuncId} (hb : hasBody P f)
    (h : ∀ e a, e.v = true → p e a → (∀ i, i < e.n → ∀ j, j < e.sz → NF (e.f i j)) ∧ ∃ v e', S e a v e' ∧ e'.v = true ∧ MethOk P f (A.enc a) e v e') : EntOk P f (methE A p S) := by
  refine ⟨fun args H nm wd q _ hq K hK => ?_, fun args H nm wd q hq K K' hKK hK => ?_⟩
  · unfold methE at hq
    split at hq
    · rename_i k s rest
      split at hq
      · rename_i e he
        split at hq
        · rename_i a pr rd hd
          obtain ⟨hc, hq⟩ := cond_some hq
          subst hq
          simp only [Bool.and_eq_true, Bool.not_eq_true'] at hc
          have hkr : k ∉ rd := fun hm => by
            have : rd.any (Nat.beq k) = true := List.any_eq_true.2 ⟨k, hm, by simp⟩
            rw [hc.2] at this; cases this
          obtain ⟨h1, h2, h3⟩ := pAnd_iff.1 hK
          obtain ⟨g1, v, e', g2, g3, g4⟩ := h e a hc.1 h2
          exact ⟨_, _, _, callR_meth hb he hc.1 hkr g1 (fun H' hh => A.sound H H' rest a pr rd hd h1 hh) g4 g3, h3 _ _ g2⟩
        · cases hq
      · cases hq
    · cases hq
  · unfold methE at hq
    split at hq
    · split at hq
      · split at hq
        · obtain ⟨hc, hq⟩ := cond_some hq
          subst hq
          obtain ⟨h1, h2, h3⟩ := pAnd_iff.1 hK
          exact pAnd_iff.2 ⟨h1, h2, fun v e' hs => hKK _ _ _ (h3 v e' hs)⟩
        · cases hq
      · cases hq
    · cases hq
/-- From a run to some outcome of a set. -/
theorem meth_some {P : Program} {T : Tys} {Q : Qs} {wd : Nat} (hwd : 0 < wd) (hT : TysOk P T) (hQ : QsOk P Q) (hm : P.follows .mixedOrders = true) {f : FuncId} {fn : Func} {c : Code} (hf : P.funcs[f]? = some fn) (hb : fn.body = some c) (rest : List FV) (hn : rest.length + 1 ≤ fn.ntmps) {e : Ent} {S : FV → Ent → Prop}
    (hS : ∀ v e', S v e' → NFF v ∧ e'.v = true ∧ ∀ i, i < e'.n → ∀ j, j < e'.sz → NF (e'.f i j)) (h : exec T Q wd fn.ntmps 1 c (argFr (.e (.c (.ptr 0 0 0 false)) :: rest) 0) [(0, some e)] 1 (endH T fn.results.toList fun x H _ => ∃ a : FV × Ent, S a.1 a.2 ∧ FinM a.1 a.2 x H)) :
    ∃ v e', S v e' ∧ e'.v = true ∧ MethOk P f rest e v e' := by
  obtain ⟨⟨v, e'⟩, h1, h2⟩ := exec_some (α := FV × Ent) (post := fun a x H _ => FinM a.1 a.2 x H) (S := fun a => S a.1 a.2) hwd hQ h
  obtain ⟨g1, g2, g3⟩ := hS v e' h1
  exact ⟨v, e', h1, g2, meth_intro hwd hT (QR_ok P) hm hf hb rest hn g1 g3 h2⟩
/-- The same for functions that keep all memory. -/
theorem pure_some {P : Program} {T : Tys} {Q : Qs} {wd : Nat} (hwd : 0 < wd) (hT : TysOk P T) (hQ : QsOk P Q) (hm : P.follows .mixedOrders = true) {f : FuncId} {fn : Func} {c : Code} (hf : P.funcs[f]? = some fn) (hb : fn.body = some c) (args : List FV) (hn : args.length ≤ fn.ntmps) {α : Type} {S : α → Prop} {enc : α → FV}
    (h : exec T Q wd fn.ntmps 0 c (argFr args 0) [] 0 (endH T fn.results.toList fun x H _ => ∃ a, S a ∧ Done H x (enc a))) : ∃ a, S a ∧ PureOk P f args (enc a) := by
  obtain ⟨a, h1, h2⟩ := exec_some (post := fun a x H _ => Done H x (enc a)) (S := S) hwd hQ h
  exact ⟨a, h1, pure_intro hwd hT (QR_ok P) hm hf hb args hn _ h2⟩
end Go.Proofs.Ytjknkfjhcapocaa.AX
