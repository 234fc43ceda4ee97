/- One operation: the abstract step is sound (all operations). -/
import Derived.Test.YtjknkfjhcapocaaBEq
namespace Go.Proofs.Ytjknkfjhcapocaa.AX
open Go.RowKit
set_option linter.unusedVariables false
set_option linter.unusedSimpArgs false

def RelL (r : Ren) (X W : Nat → Prop) (w : World) (args : List FV) (vals : Array Value) : Prop :=
  vals.size = args.length ∧ ∀ (i : Nat) x u, args[i]? = some x → vals[i]? = some u → x.rel r X W w u

/-- Names that are free. -/
def Free (r : Ren) (H : Hp) (nm wd : Nat) : Prop := ∀ k, nm ≤ k → k < nm + wd → r k = none ∧ hget H k = none

/-- The mark of a call that may look at all names, and may use all names from its own on. -/
def ALLN : Nat := 4611686018427387904
/-- What is left by a step or a call. -/
def Left (cx : Cx) (r : Ren) (H : Hp) (w : World) (nm wd : Nat) (sr : SR) (v : Value) (w' : World) : Prop :=
  ∃ r', Ext r (wr r H) w r' (wr r' (sr.eff ++ H)) w' ∧ St cx r' (sr.eff ++ H) w' ∧ (∀ k, k < nm ∨ nm + wd ≤ k → r' k = r k) ∧ (∀ k e, hget (sr.eff ++ H) k = some e → ((nm ≤ k ∨ ALLN ∈ sr.rd) ∧ k < nm + wd) ∨ ∃ e', hget H k = some e') ∧ sr.val.rel r' cx.X (wr r' (sr.eff ++ H)) w' v

def hasBody (P : Program) (f : FuncId) : Prop := ∃ fn, P.funcs[f]? = some fn ∧ fn.body.isSome = true ∧ (fn.name == "runtime.NumGoroutine") = false
def Whole (rd : List Nat) (H : Hp) (r : Ren) (H' : Hp) (nm : Nat) : Prop := ALLN ∈ rd → (∀ k, hget H k = hget H' k) ∧ ∀ k, nm ≤ k → r k = none ∧ hget H' k = none
/-- What is right of a call, whatever the blocks are that it does not look at. -/
def CallR (P : Program) (f : FuncId) (args : List FV) (H : Hp) (nm wd : Nat) (sr : SR) : Prop := hasBody P f ∧ ∀ H', (∀ k ∈ sr.rd, hget H k = hget H' k) → ∀ cx r w (vals : Array Value), St cx r H' w → Free r H' nm wd → Whole sr.rd H r H' nm → RelL r cx.X (wr r H') w args vals →
  Calls P f vals w fun e w' => ∃ v, e = .returned v ∧ Left cx r H' w nm wd sr v w'

section
variable {P : Program} {cx : Cx} {r : Ren} {H : Hp} {w : World} {T : Tys} {fr : Fr} {a : Act} {nm wd : Nat}

theorem left_still (st : St cx r H w) {sr : SR} {v : Value} (he : sr.eff = []) (hrel : sr.val.rel r cx.X (wr r H) w v) : Left cx r H w nm wd sr v w := by
  unfold Left
  rw [he]
  exact ⟨r, Ext.refl _ _ _, st, fun _ _ => rfl, fun k e he => .inr ⟨e, he⟩, hrel⟩

/-- The step ends in a value. -/
def Runs (P : Program) (cx : Cx) (r : Ren) (H : Hp) (w : World) (nm wd : Nat) (sr : SR) (s : Sem Next) : Prop :=
  ∃ v w', (s.run P w = .ok (.value v) w' ∨ (s.run P w = .ok .skip w' ∧ v = undef)) ∧ Left cx r H w nm wd sr v w'

theorem runs_val (st : St cx r H w) {sr : SR} {v : Value} {s : Sem Value} (hv : s.run P w = .ok v w) (he : sr.eff = []) (hrel : sr.val.rel r cx.X (wr r H) w v) :
    Runs P cx r H w nm wd sr (do pure (.value (← s))) :=
  ⟨v, w, .inl (by simp [hv]), left_still st he hrel⟩

theorem intBin_ok {op : BinOp} {k : IntKind} {x y : Int} {p : Option Prop} {c : CV} (t : TypeId) (h : intBin op k x y = some (p, c)) (hp : preOk p) :
    ∃ v, (binOp op t (.int k x) (.int k y)).run P w = .ok v w ∧ c.rel r cx.X (wr r H) w v := by
  cases op <;> simp only [intBin, Option.some.injEq, Prod.mk.injEq, reduceCtorEq] at h <;> obtain ⟨rfl, rfl⟩ := h
  case add => exact ⟨_, by rw [binOp_add]; rfl, rfl⟩
  case sub => exact ⟨_, by rw [binOp_sub]; rfl, rfl⟩
  case mul => exact ⟨_, by rw [binOp_mul]; rfl, rfl⟩
  case quo => exact ⟨_, by rw [binOp_quo, Op.intDiv, if_neg (show y ≠ 0 from hp)]; rfl, rfl⟩
  case rem => exact ⟨_, by rw [binOp_rem, Op.intDiv, if_neg (show y ≠ 0 from hp)]; rfl, rfl⟩
  case and => exact ⟨_, by rw [binOp_and]; rfl, rfl⟩
  case or => exact ⟨_, by rw [binOp_or]; rfl, rfl⟩
  case xor => exact ⟨_, by rw [binOp_xor]; rfl, rfl⟩
  case andNot => exact ⟨_, by rw [binOp_andNot]; rfl, rfl⟩
  case eql => exact ⟨_, by rw [binOp_eql]; rfl, rfl⟩
  case neq => exact ⟨_, by rw [binOp_neq]; rfl, rfl⟩
  case lss => exact ⟨_, by rw [binOp_lss]; rfl, rfl⟩
  case leq => exact ⟨_, by rw [binOp_leq]; rfl, rfl⟩
  case gtr => exact ⟨_, by rw [binOp_gtr]; rfl, rfl⟩
  case geq => exact ⟨_, by rw [binOp_geq]; rfl, rfl⟩

theorem shBin_ok {op : BinOp} {k k' : IntKind} {x y : Int} {p : Option Prop} {c : CV} (t : TypeId) (h : shBin op k x y = some (p, c)) (hp : preOk p) :
    ∃ v, (binOp op t (.int k x) (.int k' y)).run P w = .ok v w ∧ c.rel r cx.X (wr r H) w v := by
  cases op <;> simp only [shBin, Option.some.injEq, Prod.mk.injEq, reduceCtorEq] at h <;> obtain ⟨rfl, rfl⟩ := h
  case shl => exact ⟨_, by rw [binOp_shl, Op.shift, if_neg (Int.not_lt.2 (show 0 ≤ y from hp))]; rfl, rfl⟩
  case shr => exact ⟨_, by rw [binOp_shr, Op.shift, if_neg (Int.not_lt.2 (show 0 ≤ y from hp))]; rfl, rfl⟩

theorem run_eqBool {t : TypeId} (hb : P.underlying t = some .bool) (x y : Bool) : (Op.equal t (.bool x) (.bool y)).run P w = .ok (x == y) w := by
  have h : ∀ d : Nat, (Op.equalIn (d + 1) t (.bool x) (.bool y)).run P w = .ok (x == y) w := fun d => by
    simp only [Op.equalIn, Sem.run_bind, run_underlying hb, Result.andThen_ok, Sem.run_pure]
  exact h 9999

theorem slLen_ok {x : CV} {n : Nat} {v : Value} {X W : Nat → Prop} (h : slLen x = some (some n)) (hx : x.rel r X W w v) (h0 : 0 < n) : ∃ ad m c, v = .slice (some ad) m c := by
  cases x <;> simp only [slLen, Option.some.injEq, reduceCtorEq] at h
  · subst h
    obtain ⟨a, cap, rfl, h1, h2⟩ := hx
    obtain ⟨ad, rfl, _⟩ := h2 h0
    exact ⟨ad, _, _, rfl⟩
  · subst h
    obtain ⟨a, cap, rfl, h1, h2⟩ := hx
    obtain ⟨x, _, rfl, _⟩ := h2 (by omega)
    exact ⟨_, _, _, rfl⟩
  · subst h
    obtain ⟨a, cap, rfl, h1, h2⟩ := hx
    obtain ⟨x, _, rfl⟩ := h2 h0
    exact ⟨_, _, _, rfl⟩
theorem slLen_nil {x : CV} {v : Value} {X W : Nat → Prop} (h : slLen x = some none) (hx : x.rel r X W w v) : v = .slice none 0 0 := by
  cases x <;> simp only [slLen, Option.some.injEq, reduceCtorEq] at h
  exact hx
theorem run_eqNil {t e : TypeId} (ht : P.underlying t = some (.slice e)) (a : Option Addr) (l c : Nat) : (Op.equal t (.slice a l c) (.slice none 0 0)).run P w = .ok a.isNone w := by
  have h : ∀ d : Nat, (Op.equalIn (d + 1) t (.slice a l c) (.slice none 0 0)).run P w = .ok a.isNone w := fun d => by
    cases a <;> simp [Op.equalIn, run_underlying ht]
  exact h 9999
theorem bin_ok (hT : TysOk P T) {op : BinOp} {t : TypeId} {x y : FV} {u v : Value} {p : Option Prop} {c : CV} (h : bin T op t x y = some (p, c)) (hp : preOk p) (hx : x.rel r cx.X (wr r H) w u) (hy : y.rel r cx.X (wr r H) w v) (ox oy : Operand) :
    ∃ z, (do eqGuard op t ox oy u v; binOp op t u v : Sem Value).run P w = .ok z w ∧ c.rel r cx.X (wr r H) w z := by
  unfold bin at h
  split at h
  · rename_i k a k' b
    have e1 : u = .int k a := hx
    have e2 : v = .int k' b := hy
    subst e1 e2
    have hg : eqGuard op t ox oy (.int k a) (.int k' b) = pure () := by cases op <;> rfl
    rw [hg]
    cases hsft : isShift op with
    | true =>
      rw [hsft, cond_true] at h
      obtain ⟨z, h1, h2⟩ := shBin_ok (P := P) (cx := cx) (r := r) (H := H) (w := w) (k' := k') t h hp
      exact ⟨z, by simp [h1], h2⟩
    | false =>
      rw [hsft, cond_false] at h
      cases hk : kindEq k k' with
      | false => rw [hk] at h; cases h
      | true =>
        rw [hk, cond_true] at h
        have : k = k' := by simpa [kindEq] using hk
        subst this
        obtain ⟨z, h1, h2⟩ := intBin_ok (P := P) (cx := cx) (r := r) (H := H) (w := w) t h hp
        exact ⟨z, by simp [h1], h2⟩
  · rename_i a b
    have e1 : u = .bool a := hx
    have e2 : v = .bool b := hy
    subst e1 e2
    have hg : eqGuard op t ox oy (.bool a) (.bool b) = pure () := by cases op <;> rfl
    rw [hg]
    split at h
    · rename_i hTt
      obtain ⟨d, hd, htd⟩ := (hT t _ hTt).under
      have := td_bool htd
      subst this
      simp only [Option.some.injEq, Prod.mk.injEq] at h
      obtain ⟨rfl, rfl⟩ := h
      exact ⟨.bool (a == b), by simp [binOp, run_eqBool hd], rfl⟩
    · rename_i hTt
      obtain ⟨d, hd, htd⟩ := (hT t _ hTt).under
      have := td_bool htd
      subst this
      simp only [Option.some.injEq, Prod.mk.injEq] at h
      obtain ⟨rfl, rfl⟩ := h
      exact ⟨.bool (!(a == b)), by simp [binOp, run_eqBool hd], by cases a <;> cases b <;> rfl⟩
    · cases h
  · rename_i n f m g
    obtain ⟨xs, rfl, hxn, hxc⟩ := hx
    obtain ⟨ys, rfl, hyn, hyc⟩ := hy
    have main : ∀ (d0 : TD) (size : Nat) (z0 : List CV) (l : List Bool) (by0 : Nat), T t = some ⟨d0, size, z0, l, by0⟩ → (Nat.blt 0 l.length && Nat.beq n l.length && Nat.beq m l.length && okFrom f g l 0) = true →
        (∀ ox oy, (eqGuard op t ox oy (.agg xs) (.agg ys)).run P w = .ok () w) ∧ (Op.equalIn 10000 t (.agg xs) (.agg ys)).run P w = .ok (eqFrom f g n 0) w := by
      intro d0 size z0 l by0 hTt hb
      simp only [Bool.and_eq_true] at hb
      have e0 := blt_pos' hb.1.1.1
      have e1 := Nat.eq_of_beq_eq_true hb.1.1.2
      have e2 := Nat.eq_of_beq_eq_true hb.1.2
      have hck := (hT t _ hTt).2.2
      have hne : l.isEmpty = false := by cases l with | nil => simp at e0 | cons a l => rfl
      simp only [hne, Bool.false_or, Bool.and_eq_true, beq_iff_eq, Bool.not_eq_true'] at hck
      refine ⟨fun ox oy => run_eqGuard_agg w op t ox oy xs ys hck.1.2, ?_⟩
      rw [e1]
      exact equal_agg w hck.1.1 hck.2 (by omega) (by omega) hxc hyc hb.2
    split at h
    · rename_i d0 size z0 l by0 hTt
      cases hb : (Nat.blt 0 l.length && Nat.beq n l.length && Nat.beq m l.length && okFrom f g l 0) with
      | false => rw [hb] at h; cases h
      | true =>
        rw [hb, cond_true] at h
        obtain ⟨h1, h2⟩ := main d0 size z0 l by0 hTt hb
        simp only [Option.some.injEq, Prod.mk.injEq] at h
        obtain ⟨rfl, rfl⟩ := h
        exact ⟨.bool (eqFrom f g n 0), by rw [Sem.run_bind, h1, Result.andThen_ok, run_eql_struct, h2]; rfl, rfl⟩
    · rename_i d0 size z0 l by0 hTt
      cases hb : (Nat.blt 0 l.length && Nat.beq n l.length && Nat.beq m l.length && okFrom f g l 0) with
      | false => rw [hb] at h; cases h
      | true =>
        rw [hb, cond_true] at h
        obtain ⟨h1, h2⟩ := main d0 size z0 l by0 hTt hb
        simp only [Option.some.injEq, Prod.mk.injEq] at h
        obtain ⟨rfl, rfl⟩ := h
        exact ⟨.bool (!eqFrom f g n 0), by rw [Sem.run_bind, h1, Result.andThen_ok, run_neq_struct, h2]; rfl, rfl⟩
    · cases h
  · rename_i x
    have e2 : v = .slice none 0 0 := hy
    subst e2
    have hx' : x.rel r cx.X (wr r H) w u := hx
    unfold nilB at h
    split at h
    · rename_i hTt hsl
      obtain ⟨d, hd, htd⟩ := (hT t _ hTt).under
      obtain ⟨rfl, _⟩ := td_slice htd
      simp only [Option.some.injEq, Prod.mk.injEq] at h
      obtain ⟨rfl, rfl⟩ := h
      obtain ⟨ad, m, c, rfl⟩ := slLen_ok hsl hx' hp
      have hg : eqGuard .eql t ox oy (.slice (some ad) m c) (.slice none 0 0) = pure () := rfl
      exact ⟨.bool false, by rw [hg]; simp [binOp, run_eqNil hd], rfl⟩
    · rename_i hTt hsl
      obtain ⟨d, hd, htd⟩ := (hT t _ hTt).under
      obtain ⟨rfl, _⟩ := td_slice htd
      simp only [Option.some.injEq, Prod.mk.injEq] at h
      obtain ⟨rfl, rfl⟩ := h
      obtain ⟨ad, m, c, rfl⟩ := slLen_ok hsl hx' hp
      have hg : eqGuard .neq t ox oy (.slice (some ad) m c) (.slice none 0 0) = pure () := rfl
      exact ⟨.bool true, by rw [hg]; simp [binOp, run_eqNil hd], rfl⟩
    · rename_i hTt hsl
      obtain ⟨d, hd, htd⟩ := (hT t _ hTt).under
      obtain ⟨rfl, _⟩ := td_slice htd
      simp only [Option.some.injEq, Prod.mk.injEq] at h
      obtain ⟨rfl, rfl⟩ := h
      have := slLen_nil hsl hx'
      subst this
      have hg : eqGuard .eql t ox oy (.slice none 0 0) (.slice none 0 0) = pure () := rfl
      exact ⟨.bool true, by rw [hg]; simp [binOp, run_eqNil hd], rfl⟩
    · rename_i hTt hsl
      obtain ⟨d, hd, htd⟩ := (hT t _ hTt).under
      obtain ⟨rfl, _⟩ := td_slice htd
      simp only [Option.some.injEq, Prod.mk.injEq] at h
      obtain ⟨rfl, rfl⟩ := h
      have := slLen_nil hsl hx'
      subst this
      have hg : eqGuard .neq t ox oy (.slice none 0 0) (.slice none 0 0) = pure () := rfl
      exact ⟨.bool false, by rw [hg]; simp [binOp, run_eqNil hd], rfl⟩
    · cases h
  · cases h

theorem zip_foldl (off : Nat) : ∀ (l : List Value) (k : Nat) (cs : Array Value), (l.zipIdx k).foldl (fun cs (x : Value × Nat) => cs.setIfInBounds (off + x.2) x.1) cs = ovl cs (off + k) l := by
  intro l
  induction l with
  | nil => intro k cs; rfl
  | cons v l ih => intro k cs; simp only [List.zipIdx_cons, List.foldl_cons, ovl]; rw [ih, Nat.add_assoc]

theorem fill_ok {X W : Nat → Prop} {pl : Nat → Option (Nat × Nat)} {N : Nat} : ∀ (ps : List (Nat × FV)) (qs : List (Nat × Value)) (f g : Nat → CV) (cs : Array Value), cs.size = N → (∀ i u, cs[i]? = some u → (f i).rel r X W w u) →
    ps.length = qs.length → (∀ (i : Nat) p q, ps[i]? = some p → qs[i]? = some q → p.1 = q.1 ∧ p.2.rel r X W w q.2) → fillF pl N f ps = some g →
    ∃ cs', Instr.fill pl cs qs = some cs' ∧ cs'.size = N ∧ ∀ i u, cs'[i]? = some u → (g i).rel r X W w u := by
  intro ps
  induction ps with
  | nil =>
    intro qs f g cs hN hf hl hr h
    have : qs = [] := List.eq_nil_of_length_eq_zero hl.symm
    subst this
    injection h with h
    subst h
    exact ⟨cs, rfl, hN, hf⟩
  | cons p ps ih =>
    intro qs f g cs hN hf hl hr h
    match qs, hl with
    | q :: qs, hl =>
      obtain ⟨i, x⟩ := p
      obtain ⟨j, v⟩ := q
      obtain ⟨hij, hrel⟩ := hr 0 (i, x) (j, v) rfl rfl
      simp only at hij hrel
      subst hij
      cases x with
      | top => cases h
      | tup => cases h
      | e x =>
        simp only [fillF] at h
        split at h
        · rename_i off size n gg hpl hcs
          obtain ⟨h1, h2, h3⟩ := cells_rel hrel hcs
          cases hb : (Nat.beq n size && Nat.ble (off + n) N) with
          | false => rw [hb] at h; cases h
          | true =>
            rw [hb, cond_true] at h
            simp only [Bool.and_eq_true] at hb
            have e1 : n = size := Nat.eq_of_beq_eq_true hb.1
            have e2 : off + n ≤ N := Nat.le_of_ble_eq_true hb.2
            have hlen : v.cells.toList.length = n := by simpa using h1
            have hfold : (v.cells.zipIdx.foldl (fun cs (x : Value × Nat) => cs.setIfInBounds (off + x.2) x.1) cs) = ovl cs off v.cells.toList := by
              rw [← Array.foldl_toList, Array.toList_zipIdx]
              have := zip_foldl off v.cells.toList 0 cs
              rw [Nat.add_zero] at this
              exact this
            obtain ⟨cs', h4, h5, h6⟩ := ih qs (ovr f off n gg) g (ovl cs off v.cells.toList) (by rw [ovl_size]; exact hN) (fun k u hu => by
              rw [ovl_get _ _ _ (by rw [hlen]; omega)] at hu
              unfold ovr
              by_cases hk : off ≤ k ∧ k < off + n
              · have hb1 : (Nat.ble off k && Nat.blt k (off + n)) = true := by
                  simp only [Bool.and_eq_true]
                  exact ⟨Nat.ble_eq_true_of_le hk.1, Nat.ble_eq_true_of_le hk.2⟩
                rw [hb1, cond_true]
                rw [hlen, if_pos hk] at hu
                exact h2 (k - off) u (by simpa using hu)
              · have hb1 : (Nat.ble off k && Nat.blt k (off + n)) = false := by
                  cases hh : (Nat.ble off k && Nat.blt k (off + n)) with
                  | false => rfl
                  | true =>
                    simp only [Bool.and_eq_true] at hh
                    exact absurd ⟨Nat.le_of_ble_eq_true hh.1, Nat.le_of_ble_eq_true hh.2⟩ hk
                rw [hb1, cond_false]
                rw [hlen, if_neg hk] at hu
                exact hf k u hu) (by simpa using hl) (fun k p q hp hq => hr (k + 1) p q hp hq) h
            refine ⟨cs', ?_, h5, h6⟩
            rw [Instr.fill]
            simp only [hpl]
            rw [if_neg (by simp; exact ⟨by omega, by omega⟩), hfold]
            exact h4
        · cases h

theorem relL_of {xs : Array Operand} (hf : FrOk cx r H w fr a.tmps) : RelL r cx.X (wr r H) w (xs.toList.map (ev fr)) (xs.map a.eval) := by
  refine ⟨by simp, fun i x u hx hu => ?_⟩
  simp only [List.getElem?_map, Array.getElem?_toList, Array.getElem?_map] at hx hu
  cases ho : xs[i]? with
  | none => rw [ho] at hx; cases hx
  | some o =>
    rw [ho] at hx hu
    simp only [Option.map_some, Option.some.injEq] at hx hu
    subst hx hu
    exact ev_ok hf o

/-- The names that die leave the others alone. -/
theorem dead_one {k : Nat} : ∀ j e, hget ([(k, none)] ++ H) j = some e → hget H j = some e := fun j e h => by
  by_cases hj : j = k
  · subst hj
    have : hget ([(j, none)] ++ H) j = none := look_cons_eq _ _ _ _
    rw [this] at h; cases h
  · have : hget ([(k, none)] ++ H) j = hget H j := look_cons_ne _ _ _ hj
    rw [this] at h; exact h
theorem dead_none : ∀ j e, hget ([] ++ H) j = some e → hget H j = some e := fun j e h => h

theorem new_left (st : St cx r H w) (hfr : Free r H nm wd) (hwd : 0 < wd) {dead : Hp} (hdead : ∀ k e, hget (dead ++ H) k = some e → hget H k = some e) (t : TypeId) (cs : Array Value) (n sz c : Nat) (v : Bool) (f : Nat → Nat → CV) (hsz : 0 < sz) (hv : v = true → n = 1) (hc : cs.size = c * sz) (hn : n ≤ c)
    (hf : ∀ i, i < n → ∀ j, j < sz → ∀ u, cs[i * sz + j]? = some u → (f i j).rel r cx.X (wr r H) w u) {w1 : World} (hos : w1.os = w.os) (htape : w1.tape = w.tape) (hout : w1.output = w.output) (hheap : w1.heap = w.heap.push (.cells cs t))
    {sr : SR} {val : Value} (he : sr.eff = (nm, some ⟨t, n, sz, v, f⟩) :: dead) (hval : ∀ r' : Ren, r' nm = some ⟨w.heap.size, sz, c⟩ → ∀ W w', sr.val.rel r' cx.X W w' val) :
    Left cx r H w nm wd sr val w1 := by
  have h0 := hfr nm (Nat.le_refl _) (by omega)
  obtain ⟨h1, h2⟩ := st.new h0.1 dead hdead h0.2 t cs n sz c v f hsz hv hc hn hf hos htape hout hheap
  unfold Left
  rw [he]
  refine ⟨_, h1, h2, fun k hk => if_neg (by omega), fun k e hk => ?_, hval _ (if_pos rfl) _ _⟩
  by_cases h : k = nm
  · exact .inl ⟨.inl (by omega), by omega⟩
  · have : hget (((nm, some ⟨t, n, sz, v, f⟩) :: dead) ++ H) k = hget (dead ++ H) k := look_cons_ne _ _ _ h
    rw [this] at hk
    exact .inr ⟨e, hdead k e hk⟩

theorem run_zero {t : TypeId} {i : TypeInfo} {z : Value} (hi : P.info? t = some i) (hz : i.zero = some z) (w : World) : (zeroValue t).run P w = .ok z w := by
  simp [zeroValue, typeInfo, hi, hz]
theorem run_size {t : TypeId} {i : TypeInfo} (hi : P.info? t = some i) (w : World) : (sizeOf t).run P w = .ok i.size w := by
  simp [sizeOf, typeInfo, hi]
theorem zero_rel {z : Value} {l : List CV} {X W : Nat → Prop} (h1 : z.cells.toList.map ofVal = l) (h2 : z.cells.toList.all isCellB = true) : z.cells.size = l.length ∧ ∀ i u, z.cells[i]? = some u → (nth l i).rel r X W w u := by
  subst h1
  refine ⟨by simp, fun i u hu => ?_⟩
  have hu' : z.cells.toList[i]? = some u := by simpa using hu
  have : nth (z.cells.toList.map ofVal) i = ofVal u := by simp [nth, hu]
  rw [this]
  exact rel_ofVal (List.all_eq_true.1 h2 u (List.mem_of_getElem? hu'))

theorem var_cell {O : Prop} {cs : Array Value} {sz : Nat} {f : Nat → CV} {X W : Nat → Prop} (h : ∀ i u, cs[i]? = some u → (f i).rel r X W w u) : ∀ i, i < 1 → ∀ j, j < sz → ∀ u, cs[i * sz + j]? = some u → ((fun _ => f : Nat → Nat → CV) i j).rel r X W w u := by
  intro i hi j hj u hu
  have : i = 0 := by omega
  subst this
  rw [Nat.zero_mul, Nat.zero_add] at hu
  exact h j u hu
theorem step_runs_alloc (hT : TysOk P T) (st : St cx r H w) (hfr : Free r H nm wd) (hwd : 0 < wd) {t : TypeId} {ti : TI} (ht : T t = some ti) (h0 : 0 < ti.zero.length) :
    Runs P cx r H w nm wd ⟨none, one (.ptr nm 0 0 false), [(nm, some ⟨t, 1, ti.zero.length, true, fun _ => nth ti.zero⟩)], []⟩ (do pure (.value (← Instr.alloc t true (.tuple #[])))) := by
  obtain ⟨i, z, hi, hsz, hz, hl, hall, _⟩ := (hT t ti ht).info
  obtain ⟨h1, h2⟩ := zero_rel (r := r) (w := w) (X := cx.X) (W := wr r H) hl hall
  refine ⟨.pointer (some ⟨w.heap.size, 0, none⟩), w.alloc (.cells z.cells t), .inl (by simp [Instr.alloc, run_zero hi hz, newVar, newRow]), ?_⟩
  refine new_left st hfr hwd dead_none t z.cells 1 ti.zero.length 1 true (fun _ => nth ti.zero) h0 (fun _ => rfl) (by rw [h1, Nat.one_mul]) (Nat.le_refl _) (var_cell (O := True) h2) ?_ ?_ ?_ ?_ ?_ ?_ <;> first | rfl | exact fun r' h W w' => ⟨_, h, by simp⟩

theorem step_runs_box (st : St cx r H w) (hfr : Free r H nm wd) (hwd : 0 < wd) {t : TypeId} {x : EV} {v : Value} {n : Nat} {f : Nat → CV} (hx : x.rel r cx.X (wr r H) w v) (hc : cellsOf x = some (n, f)) (h0 : 0 < n) :
    Runs P cx r H w nm wd ⟨none, one (.ptr nm 0 0 false), [(nm, some ⟨t, 1, n, true, fun _ => f⟩)], []⟩ (do pure (.value (← Instr.box t v))) := by
  obtain ⟨h1, h2, h3⟩ := cells_rel hx hc
  refine ⟨.pointer (some ⟨w.heap.size, 0, none⟩), w.alloc (.cells v.cells t), .inl (by simp [Instr.box, newVar, newRow]), ?_⟩
  refine new_left st hfr hwd dead_none t v.cells 1 n 1 true (fun _ => f) h0 (fun _ => rfl) (by rw [h1, Nat.one_mul]) (Nat.le_refl _) (var_cell (O := True) h2) ?_ ?_ ?_ ?_ ?_ ?_ <;> first | rfl | exact fun r' h W w' => ⟨_, h, by simp⟩

theorem parts_rel {X W : Nat → Prop} (hf : ∀ x, (ev fr x).rel r X W w (a.eval x)) (parts : Array (Nat × Operand)) :
    (parts.toList.map fun p => (p.1, ev fr p.2)).length = (parts.map fun (i, x) => (i, a.eval x)).toList.length ∧
    ∀ (i : Nat) (p : Nat × FV) (q : Nat × Value), (parts.toList.map fun p => (p.1, ev fr p.2))[i]? = some p → (parts.map fun (i, x) => (i, a.eval x)).toList[i]? = some q → p.1 = q.1 ∧ p.2.rel r X W w q.2 := by
  refine ⟨by simp, fun i p q hp hq => ?_⟩
  simp only [List.getElem?_map, Array.getElem?_toList, Array.getElem?_map] at hp hq
  cases ho : parts[i]? with
  | none => rw [ho] at hp; cases hp
  | some o =>
    rw [ho] at hp hq
    simp only [Option.map_some, Option.some.injEq] at hp hq
    subst hp hq
    exact ⟨rfl, hf _⟩

theorem info_of_under {t : TypeId} {d : TypeDesc} (h : P.underlying t = some d) : ∃ i, P.info? t = some i := by
  cases hi : P.info? t with
  | some i => exact ⟨i, rfl⟩
  | none => simp [Program.underlying, hi] at h

theorem mapM_places (w : World) : ∀ (fs : List Field), (∀ f ∈ fs, ∃ d, P.underlying f.type = some d) →
    (fs.mapM fun f => (do pure (f.offset, ← sizeOf f.type) : Sem (Nat × Nat))).run P w = .ok (fs.map fun f => (f.offset, szN P f.type)) w := by
  intro fs
  induction fs with
  | nil => intro _; rfl
  | cons f fs ih =>
    intro h
    obtain ⟨d, hd⟩ := h f (List.mem_cons_self ..)
    obtain ⟨i, hi⟩ := info_of_under hd
    have hs : i.size = szN P f.type := by simp [szN, hi]
    simp only [List.mapM_cons, Sem.run_bind, run_size hi, Result.andThen_ok, Sem.run_pure, ih (fun f hf => h f (List.mem_cons_of_mem _ hf)), hs, List.map_cons]

theorem step_runs_build (hT : TysOk P T) (st : St cx r H w) {t : TypeId} {fs : List (Nat × Nat × Option Bool)} {sz : Nat} {z : List CV} {parts : Array (Nat × Operand)} {f : Nat → CV}
    {eqb : List Bool} {by0 : Nat} (ht : T t = some ⟨.struct fs, sz, z, eqb, by0⟩) (hall : fs.all (fun x => x.2.2.isSome) = true) (hf : ∀ x, (ev fr x).rel r cx.X (wr r H) w (a.eval x))
    (hfill : fillF (fun i => (fs[i]?).map fun x => (x.1, x.2.1)) z.length (nth z) (parts.toList.map fun p => (p.1, ev fr p.2)) = some f) :
    Runs P cx r H w nm wd ⟨none, .e (.agg z.length f), [], []⟩ (do pure (.value (← Instr.build t (parts.map fun (i, x) => (i, a.eval x))))) := by
  obtain ⟨i, zv, hi, hsz, hz, hl, hcell, _⟩ := (hT t _ ht).info
  obtain ⟨d, hd, htd⟩ := (hT t _ ht).under
  obtain ⟨fa, rfl, hfa⟩ := td_struct htd
  obtain ⟨h1, h2⟩ := zero_rel (r := r) (w := w) (X := cx.X) (W := wr r H) hl hcell
  obtain ⟨h3, h4⟩ := parts_rel hf parts
  obtain ⟨cs, h5, h6, h7⟩ := fill_ok (r := r) (w := w) (X := cx.X) (W := wr r H) _ _ _ _ zv.cells h1 h2 h3 h4 hfill
  refine runs_val st (v := .agg cs) ?_ rfl ⟨cs, rfl, h6, h7⟩
  have hm : (fa.mapM fun f => (do pure (f.offset, ← sizeOf f.type) : Sem (Nat × Nat))).run P w = .ok (fa.map fun f => (f.offset, szN P f.type)) w := by
    rw [Array.mapM_eq_mapM_toList, Sem.run_map, mapM_places w fa.toList]
    · simp only [Result.andThen]
      congr 1
      apply Array.ext'
      simp
    · intro f hf
      have : (f.offset, szN P f.type, (P.underlying f.type).map isAggD) ∈ fs := by rw [← hfa]; exact List.mem_map.2 ⟨f, hf, rfl⟩
      have := List.all_eq_true.1 hall _ this
      simp only at this
      cases hu : P.underlying f.type with
      | none => rw [hu] at this; cases this
      | some d => exact ⟨d, rfl⟩
  have hpl : (fun (i : Nat) => (fa.map fun f => (f.offset, szN P f.type))[i]?) = fun (i : Nat) => (fs[i]?).map fun x => (x.1, x.2.1) := by
    funext i
    rw [← hfa]
    simp only [List.getElem?_map, Array.getElem?_toList, Array.getElem?_map, Option.map_map]
    rfl
  simp only [Instr.build, Sem.run_bind, run_zero hi hz, run_underlying hd, Result.andThen_ok, hm, hpl, h5, Sem.run_pure]

theorem step_runs_buildA (hT : TysOk P T) (st : St cx r H w) {t e : TypeId} {n es sz : Nat} {b : Option Bool} {z : List CV} {parts : Array (Nat × Operand)} {f : Nat → CV}
    {eqb : List Bool} {by0 : Nat} (ht : T t = some ⟨.arr n e es b, sz, z, eqb, by0⟩) (hf : ∀ x, (ev fr x).rel r cx.X (wr r H) w (a.eval x))
    (hfill : fillS (fun i => bif Nat.blt 0 es then some (i * es, es) else none) z.length (zf z) (parts.toList.map fun p => (p.1, ev fr p.2)) = some f) (h0 : es ≠ 0) :
    Runs P cx r H w nm wd ⟨none, .e (.agg z.length f), [], []⟩ (do pure (.value (← Instr.build t (parts.map fun (i, x) => (i, a.eval x))))) := by
  obtain ⟨i, zv, hi, hsz, hz, hl, hcell, _⟩ := (hT t _ ht).info
  obtain ⟨d, hd, htd⟩ := (hT t _ ht).under
  obtain ⟨rfl, hes, _⟩ := td_arr htd
  obtain ⟨ie, hie, hies⟩ := szN_info hes h0
  obtain ⟨h1, h2⟩ := zero_rel (r := r) (w := w) (X := cx.X) (W := wr r H) hl hcell
  obtain ⟨h3, h4⟩ := parts_rel hf parts
  have hb : Nat.blt 0 es = true := Nat.ble_eq_true_of_le (by omega)
  have hpl : (fun i => bif Nat.blt 0 es then some (i * es, es) else none) = fun i => some (i * es, es) := by funext i; rw [hb]; rfl
  rw [hpl, fillS_eq] at hfill
  have h2' : ∀ i u, zv.cells[i]? = some u → (zf z i).rel r cx.X (wr r H) w u := fun i u hu => by
    rw [zf_eq (by rw [← h1]; exact (Array.getElem?_eq_some_iff.1 hu).1)]; exact h2 i u hu
  obtain ⟨cs, h5, h6, h7⟩ := fill_ok (r := r) (w := w) (X := cx.X) (W := wr r H) _ _ _ _ zv.cells h1 h2' h3 h4 hfill
  refine runs_val st (v := .agg cs) ?_ rfl ⟨cs, rfl, h6, h7⟩
  simp only [Instr.build, Sem.run_bind, run_zero hi hz, run_underlying hd, Result.andThen_ok, run_size hie, hies, h5, Sem.run_pure]

theorem ovl_rel {X W : Nat → Prop} {cs : Array Value} {vs : List Value} {off n N : Nat} {f g : Nat → CV} (hN : cs.size = N) (hn : vs.length = n) (hle : off + n ≤ N) (hf : ∀ i u, cs[i]? = some u → (f i).rel r X W w u)
    (hg : ∀ i u, vs[i]? = some u → (g i).rel r X W w u) : ∀ i u, (ovl cs off vs)[i]? = some u → (ovr f off n g i).rel r X W w u := by
  intro k u hu
  rw [ovl_get _ _ _ (by omega)] at hu
  unfold ovr
  by_cases hk : off ≤ k ∧ k < off + n
  · have hb1 : (Nat.ble off k && Nat.blt k (off + n)) = true := by
      simp only [Bool.and_eq_true]
      exact ⟨Nat.ble_eq_true_of_le hk.1, Nat.ble_eq_true_of_le hk.2⟩
    rw [hb1, cond_true]
    rw [hn, if_pos hk] at hu
    exact hg (k - off) u hu
  · have hb1 : (Nat.ble off k && Nat.blt k (off + n)) = false := by
      cases hh : (Nat.ble off k && Nat.blt k (off + n)) with
      | false => rfl
      | true =>
        simp only [Bool.and_eq_true] at hh
        exact absurd ⟨Nat.le_of_ble_eq_true hh.1, Nat.le_of_ble_eq_true hh.2⟩ hk
    rw [hb1, cond_false]
    rw [hn, if_neg hk] at hu
    exact hf k u hu

/-- A block of ours: where it lies, and its cells. -/
theorem blk_at (st : St cx r H w) {k : Nat} {x : Bi} {e : Ent} (hk : hget H k = some e) (hx : r k = some x) : 0 < e.sz ∧ (e.v = true → e.n = 1) ∧ x.sz = e.sz ∧ e.n ≤ x.c ∧ ∃ cs, w.heap[x.b]? = some (.cells cs e.t (0, 0)) ∧ cs.size = x.c * x.sz ∧ ∀ i, i < e.n → ∀ j, j < e.sz → ∀ u, cs[i * e.sz + j]? = some u → (e.f i j).rel r cx.X (wr r H) w u := by
  obtain ⟨h1, h2, h3⟩ := st.blk k e hk
  rcases h3 with ⟨h3, _⟩ | ⟨y, cs, g1, g2, g3, g4, g5, g6⟩
  · rw [hx] at h3; cases h3
  · rw [hx] at g1; injection g1 with g1; subst g1
    exact ⟨h1, h2, g2, g5, cs, g3, g4, g6⟩
theorem idx_lt {i j n sz c : Nat} (hi : i < n) (hj : j < sz) (hn : n ≤ c) : i * sz + j < c * sz := by
  have h1 : i * sz + sz ≤ c * sz := by rw [← Nat.succ_mul]; exact Nat.mul_le_mul_right _ (by omega)
  omega
theorem blk_cell (st : St cx r H w) {k : Nat} {x : Bi} {e : Ent} (hk : hget H k = some e) (hx : r k = some x) {i j : Nat} (hi : i < e.n) (hj : j < e.sz) : ∃ u, w.cell? ⟨x.b, i * x.sz + j, none⟩ = some u ∧ (e.f i j).rel r cx.X (wr r H) w u := by
  obtain ⟨h1, h2, h3, h4, cs, h5, h6, h7⟩ := blk_at st hk hx
  have hlt : i * x.sz + j < cs.size := by rw [h6]; exact idx_lt hi (by omega) h4
  refine ⟨cs[i * x.sz + j], by simp [World.cell?, h5, Array.getElem?_eq_getElem hlt], ?_⟩
  exact h7 i hi j hj _ (by rw [← h3]; exact Array.getElem?_eq_getElem hlt)

/-- What a store into a block of ours leaves: cells vs from (i, j) on. -/
theorem write_left (st : St cx r H w) {k : Nat} {x : Bi} {e : Ent} (hk : hget H k = some e) (hx : r k = some x) {cs' : Array Value} {f : Nat → Nat → CV} (hsize : cs'.size = x.c * x.sz)
    (hf : ∀ i, i < e.n → ∀ j, j < e.sz → ∀ u, cs'[i * e.sz + j]? = some u → (f i j).rel r cx.X (wr r H) w u) {w' : World} (hos : w'.os = w.os) (htape : w'.tape = w.tape) (hout : w'.output = w.output) (hsz : w'.heap.size = w.heap.size)
    (hother : ∀ y, y ≠ x.b → w'.heap[y]? = w.heap[y]?) (hthis : w'.heap[x.b]? = some (.cells cs' e.t (0, 0))) {sr : SR} {v : Value} (he : sr.eff = [(k, some ⟨e.t, e.n, e.sz, e.v, f⟩)]) (hval : ∀ W w', sr.val.rel r cx.X W w' v) : Left cx r H w nm wd sr v w' := by
  obtain ⟨h1, h2⟩ := st.write hk hx cs' f hsize hf w' hos htape hout hsz hother hthis
  unfold Left
  rw [he]
  refine ⟨r, h1, h2, fun _ _ => rfl, fun n e' hn => ?_, hval _ _⟩
  by_cases h : n = k
  · subst h; exact .inr ⟨e, hk⟩
  · have : hget ([(k, some ⟨e.t, e.n, e.sz, e.v, f⟩)] ++ H) n = hget H n := look_cons_ne _ _ _ h
    rw [this] at hn; exact .inr ⟨e', hn⟩

theorem sel_at {sz a b i j : Nat} (hj : j < sz) (hb : b < sz) : i * sz + j = a * sz + b ↔ i = a ∧ j = b := by
  constructor
  · intro h
    have h1 : (i * sz + j) / sz = i := by rw [Nat.mul_comm, Nat.mul_add_div (by omega), Nat.div_eq_of_lt hj]; omega
    have h2 : (a * sz + b) / sz = a := by rw [Nat.mul_comm, Nat.mul_add_div (by omega), Nat.div_eq_of_lt hb]; omega
    have : i = a := by rw [← h1, ← h2, h]
    subst this
    exact ⟨rfl, by omega⟩
  · rintro ⟨rfl, rfl⟩; rfl
theorem row_lt {sz i a : Nat} (h : i < a) : i * sz + sz ≤ a * sz := by rw [← Nat.succ_mul]; exact Nat.mul_le_mul_right _ h
theorem ovr_in {f g : Nat → CV} {off n j : Nat} (h : off ≤ j ∧ j < off + n) : ovr f off n g j = g (j - off) := by
  unfold ovr
  rw [show (Nat.ble off j && Nat.blt j (off + n)) = true from by simp only [Bool.and_eq_true]; exact ⟨Nat.ble_eq_true_of_le h.1, Nat.ble_eq_true_of_le h.2⟩]
  rfl
theorem ovr_out {f g : Nat → CV} {off n j : Nat} (h : ¬ (off ≤ j ∧ j < off + n)) : ovr f off n g j = f j := by
  unfold ovr
  have : (Nat.ble off j && Nat.blt j (off + n)) = false := by
    cases hh : (Nat.ble off j && Nat.blt j (off + n)) with
    | false => rfl
    | true =>
      simp only [Bool.and_eq_true] at hh
      exact absurd ⟨Nat.le_of_ble_eq_true hh.1, Nat.le_of_ble_eq_true hh.2⟩ h
  rw [this]; rfl
theorem updE_at {v : Bool} {f : Nat → Nat → CV} {a : Nat} {g : Nat → CV} {n i : Nat} (hv : v = true → n = 1) (ha : a < n) (hi : i < n) : updE v f a g i = if i = a then g else f i := by
  cases v with
  | true => have := hv rfl; rw [if_pos (by omega)]; rfl
  | false =>
    funext j
    show selC (Nat.beq i a) (g j) (f i j) = _
    rw [selC_eq]
    by_cases h : i = a
    · subst h; simp
    · have : Nat.beq i a = false := by
        cases hb : Nat.beq i a with
        | false => rfl
        | true => exact absurd (Nat.eq_of_beq_eq_true hb) h
      rw [this, if_neg h]; rfl

/-- The cells vs laid over a block from element a, cell b on. -/
theorem laid_rel (st : St cx r H w) {k : Nat} {x : Bi} {e : Ent} (hk : hget H k = some e) (hx : r k = some x) {cs : Array Value} (hcs : w.heap[x.b]? = some (.cells cs e.t (0, 0))) {a b n : Nat} {vs : List Value} {g F : Nat → CV} (hF : ∀ j, j < e.sz → F j = ovr (e.f a) b n g j) (ha : a < e.n) (hb : b + n ≤ e.sz) (hn : vs.length = n)
    (hg : ∀ i u, vs[i]? = some u → (g i).rel r cx.X (wr r H) w u) : ∀ i, i < e.n → ∀ j, j < e.sz → ∀ u, (ovl cs (a * x.sz + b) vs)[i * e.sz + j]? = some u → (updE e.v e.f a F i j).rel r cx.X (wr r H) w u := by
  obtain ⟨h1, h2, h3, h4, cs', h5, h6, h7⟩ := blk_at st hk hx
  rw [hcs] at h5; injection h5 with h5; injection h5 with h5; subst h5
  intro i hi j hj u hu
  rw [updE_at h2 ha hi]
  have hfit : a * x.sz + b + vs.length ≤ cs.size := by
    rw [h6, hn]
    have := row_lt (sz := x.sz) (Nat.lt_of_lt_of_le ha h4)
    omega
  rw [ovl_get _ _ _ hfit] at hu
  rw [h3] at hu
  by_cases hin : a * e.sz + b ≤ i * e.sz + j ∧ i * e.sz + j < a * e.sz + b + vs.length
  · rw [if_pos hin] at hu
    have hia : i = a := by
      rcases Nat.lt_trichotomy i a with h | h | h
      · have := row_lt (sz := e.sz) h; omega
      · exact h
      · have := row_lt (sz := e.sz) h; omega
    subst hia
    rw [if_pos rfl, hF j hj, ovr_in (by omega)]
    rw [show i * e.sz + j - (i * e.sz + b) = j - b by omega] at hu
    exact hg _ _ hu
  · rw [if_neg hin] at hu
    by_cases hia : i = a
    · subst hia
      rw [if_pos rfl, hF j hj, ovr_out (by omega)]
      exact h7 i hi j hj u hu
    · rw [if_neg hia]
      exact h7 i hi j hj u hu

theorem store_runs (st : St cx r H w) {k : Nat} {x : Bi} {e : Ent} (hk : hget H k = some e) (hx : r k = some x) {a b n : Nat} {vs : List Value} {g F : Nat → CV} (hF : ∀ j, j < e.sz → F j = ovr (e.f a) b n g j) (ha : a < e.n) (hb : b + n ≤ e.sz) (hn : vs.length = n) (hcell : ∀ v ∈ vs, isCell v)
    (hg : ∀ i u, vs[i]? = some u → (g i).rel r cx.X (wr r H) w u) {sr : SR} {v : Value} (he : sr.eff = [(k, some ⟨e.t, e.n, e.sz, e.v, updE e.v e.f a F⟩)]) (hval : ∀ W w', sr.val.rel r cx.X W w' v) :
    ∃ w', (storeCells ⟨x.b, a * x.sz + b, none⟩ vs 0).run P w = .ok () w' ∧ Left cx r H w nm wd sr v w' := by
  obtain ⟨h1, h2, h3, h4, cs, h5, h6, h7⟩ := blk_at st hk hx
  have hfit : a * x.sz + b + 0 + vs.length ≤ cs.size := by
    rw [h6, hn]
    have := row_lt (sz := x.sz) (Nat.lt_of_lt_of_le ha h4)
    omega
  obtain ⟨w', g1, g2, g3, g4, g5, g6, g7⟩ := run_storeCells P x.b (a * x.sz + b) e.t vs 0 w cs h5 hfit hcell
  rw [Nat.add_zero] at g7
  exact ⟨w', g1, write_left st hk hx (by rw [ovl_size]; exact h6) (laid_rel st hk hx h5 hF ha hb hn hg) g2 g3 g4 g5 g6 g7 he hval⟩

theorem step_runs_store (hT : TysOk P T) (st : St cx r H w) {t : TypeId} {ti : TI} {k i j : Nat} {sym : Bool} {e : Ent} {x : EV} {v va : Value} {n : Nat} {g : Nat → CV} (ht : T t = some ti) (hva : (CV.ptr k i j sym).rel r cx.X (wr r H) w va) (hk : hget H k = some e)
    (hx : x.rel r cx.X (wr r H) w v) (hc : cellsOf x = some (n, g)) (hn : n = ti.size) (h1 : i < e.n) (h2 : j + n ≤ e.sz) (p : Option Prop) :
    Runs P cx r H w nm wd ⟨p, .top, [(k, some ⟨e.t, e.n, e.sz, e.v, updE e.v e.f i (ovw sym e.sz (e.f i) j n g)⟩)], [k]⟩ (do Instr.storeAt t va v; pure .skip) := by
  obtain ⟨q, z, hi, hsz, _⟩ := (hT t ti ht).info
  obtain ⟨b, hb, rfl⟩ := hva
  obtain ⟨c1, c2, c3⟩ := cells_rel hx hc
  obtain ⟨w', g1, g2⟩ := store_runs (P := P) (nm := nm) (wd := wd) st hk hb (a := i) (b := j) (n := n) (vs := v.cells.toList) (g := g) (F := ovw sym e.sz (e.f i) j n g) (fun q hq => ovw_eq _ _ _ _ _ _ q hq) h1 h2 (by simpa using c1) c3 (fun i u hu => c2 i u (by simpa using hu)) (sr := ⟨p, .top, [(k, some ⟨e.t, e.n, e.sz, e.v, updE e.v e.f i (ovw sym e.sz (e.f i) j n g)⟩)], [k]⟩) (v := undef) rfl (fun _ _ => trivial)
  refine ⟨undef, w', .inr ⟨?_, rfl⟩, g2⟩
  have hne : ¬ (v.cells.size ≠ q.size) := by rw [c1, hsz]; simpa using hn
  simp only [Instr.storeAt, Instr.sureAddr, storeVar, Sem.run_bind, Sem.run_pure, Result.andThen_ok, run_size hi, hne, if_false, g1]

theorem step_runs_load (hT : TysOk P T) (st : St cx r H w) {t : TypeId} {ti : TI} {sr : SR} {m : Nat} {g : Nat → CV} {lit : Bool} {q : Option Prop} {rd : List Nat} {b off : Nat} (ht : T t = some ti) (hs : loadF ti m g lit q rd = some sr) (hp : preOk sr.pre)
    (hc : preOk q → ∀ j, j < m → ∃ u, w.cell? ⟨b, off + j, none⟩ = some u ∧ (g j).rel r cx.X (wr r H) w u) :
    Runs P cx r H w nm wd sr (do pure (.value (← Instr.loadAt t (.pointer (some ⟨b, off, none⟩))))) := by
  obtain ⟨v, h1, h2, h3⟩ := load_ok (hT t ti ht) hs hp hc
  exact runs_val st (v := v) (by simp [Instr.loadAt, Instr.sureAddr, h1]) h2 h3

theorem rp_addr {sh : Bool} {m : Nat} {g : Nat → CV} {v : Value} {X W : Nat → Prop} (h : (CV.rp sh m g).rel r X W w v) : ∃ b off, v = .pointer (some ⟨b, off, none⟩) ∧ ¬ W b ∧ (sh = true → ¬ X b) ∧ b < w.heap.size ∧ ∀ j, j < m → ∃ u, w.cell? ⟨b, off + j, none⟩ = some u ∧ (g j).rel r X W w u := by
  obtain ⟨ad, rfl, hs, ho, hX, hlt, hc⟩ := h
  obtain ⟨b, o, s⟩ := ad
  simp only at hs
  subst hs
  exact ⟨b, o, rfl, ho, hX, hlt, hc⟩
theorem rp_mk {sh : Bool} {m : Nat} {g : Nat → CV} {b off : Nat} {X W : Nat → Prop} (ho : ¬ W b) (hX : sh = true → ¬ X b) (hlt : b < w.heap.size) (hc : ∀ j, j < m → ∃ u, w.cell? ⟨b, off + j, none⟩ = some u ∧ (g j).rel r X W w u) : (CV.rp sh m g).rel r X W w (.pointer (some ⟨b, off, none⟩)) :=
  ⟨_, rfl, rfl, ho, hX, hlt, hc⟩

theorem run_fieldAt {t : TypeId} {fa : Array Field} {i : Nat} {f : Field} {s : Nat} (hd : P.underlying t = some (.struct fa)) (hf : fa[i]? = some f) (hs : szN P f.type = s) (h0 : s ≠ 0) (b off : Nat) :
    (Instr.fieldAt t (.pointer (some ⟨b, off, none⟩)) i).run P w = .ok (.pointer (some ⟨b, off + f.offset, none⟩)) w := by
  obtain ⟨j, hj, hjs⟩ := szN_info hs h0
  simp only [Instr.fieldAt, Sem.run_bind, run_underlying hd, Result.andThen_ok, hf, Instr.sureAddr, Sem.run_pure, fieldPlace, run_size hj, hjs, h0, if_false, addN]

theorem fs_at {fa : Array Field} {fs : List (Nat × Nat × Option Bool)} {i o s : Nat} {b : Option Bool} (hfa : fa.toList.map (fun f => (f.offset, szN P f.type, (P.underlying f.type).map isAggD)) = fs) (h : fs[i]? = some (o, s, b)) :
    ∃ f, fa[i]? = some f ∧ f.offset = o ∧ szN P f.type = s ∧ (P.underlying f.type).map isAggD = b := by
  subst hfa
  simp only [List.getElem?_map, Array.getElem?_toList] at h
  cases hf : fa[i]? with
  | none => rw [hf] at h; cases h
  | some f =>
    rw [hf] at h
    simp only [Option.map_some, Option.some.injEq, Prod.mk.injEq] at h
    exact ⟨f, rfl, h.1, h.2.1, h.2.2⟩

theorem run_partA {t : TypeId} {d : TypeDesc} {i : TypeInfo} (hd : P.underlying t = some d) (ha : isAggD d = true) (hi : P.info? t = some i) (cs : Array Value) (off : Nat) :
    (part t cs off).run P w = .ok (.agg (cs.extract off (off + i.size))) w := by
  have hA : (isAgg t).run P w = .ok true w := by
    simp only [isAgg, Sem.run_bind, run_underlying hd, Result.andThen_ok]
    cases d <;> first | rfl | cases ha
  simp only [part, Sem.run_bind, hA, Result.andThen_ok, if_true, run_size hi, Sem.run_pure]
theorem run_partC {t : TypeId} {d : TypeDesc} (hd : P.underlying t = some d) (ha : isAggD d = false) (cs : Array Value) (off : Nat) {v : Value} (hv : cs[off]? = some v) :
    (part t cs off).run P w = .ok v w := by
  have hA : (isAgg t).run P w = .ok false w := by
    simp only [isAgg, Sem.run_bind, run_underlying hd, Result.andThen_ok]
    cases d <;> first | rfl | cases ha
  simp only [part, Sem.run_bind, hA, Result.andThen_ok, hv, Sem.run_pure, Bool.false_eq_true, if_false]
theorem under_agg {t : TypeId} {b : Bool} (h : (P.underlying t).map isAggD = some b) : ∃ d, P.underlying t = some d ∧ isAggD d = b := by
  cases hd : P.underlying t with
  | none => rw [hd] at h; cases h
  | some d => rw [hd] at h; exact ⟨d, rfl, by simpa using h⟩
theorem blt_pos {n : Nat} (h : Nat.blt 0 n = true) : n ≠ 0 := by have := Nat.le_of_ble_eq_true h; omega
theorem extract_rel {X W : Nat → Prop} {cs : Array Value} {n off s : Nat} {g : Nat → CV} (hn : cs.size = n) (hle : off + s ≤ n) (hg : ∀ i u, cs[i]? = some u → (g i).rel r X W w u) :
    (EV.agg s (fun j => g (off + j))).rel r X W w (.agg (cs.extract off (off + s))) := by
  refine ⟨_, rfl, by simp; omega, fun i u hu => ?_⟩
  rw [Array.getElem?_extract] at hu
  split at hu
  · exact hg _ _ hu
  · cases hu
end
end Go.Proofs.Ytjknkfjhcapocaa.AX
