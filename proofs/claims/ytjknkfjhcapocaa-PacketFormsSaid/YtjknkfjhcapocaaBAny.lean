/- A region that draws its order: every allowed order comes to what the order of the text comes to. -/
import Derived.Test.YtjknkfjhcapocaaBReg
namespace Go.Proofs.Ytjknkfjhcapocaa.AX
open Go.RowKit
set_option linter.unusedVariables false
set_option linter.unusedSimpArgs false

def looks (all : List Oper) (o : Oper) : List Nat :=
  tmpsOf o.op ++ (match o.guard with | some (j, _) => (guardT all j).toList | none => [])
def memN (l : List Nat) (t : Nat) : Bool := l.any (Nat.beq t)
theorem memN_of {l : List Nat} {t : Nat} (h : t ∈ l) : memN l t = true := List.any_eq_true.2 ⟨t, h, by simp⟩
def dstIn (l : List Nat) : Option Tmp → Bool
  | some t => memN l t
  | none => false
def dstEq : Option Tmp → Option Tmp → Bool
  | some t, some u => Nat.beq t u
  | _, _ => false
def meets (a b : List Nat) : Bool := a.any (memN b)
def confl (all : List Oper) (o : Oper) (l : List Nat × List Nat) (o' : Oper) (l' : List Nat × List Nat) : Bool :=
  dstIn (looks all o) o'.dst || dstIn (looks all o') o.dst || dstEq o.dst o'.dst || meets l.1 l'.1 || meets l.1 l'.2 || meets l.2 l'.1
/-- Every two operations that touch one another are ordered. -/
def regOk (all : List Oper) (log : Log) : Bool :=
  let ms := masks all []
  (List.range all.length).all fun j =>
    match all[j]?, log[j]?, ms[j]? with
    | some oj, some lj, some m =>
      (oj.after.toList.all fun e => !Region.binds .any e || Nat.blt e.on j) &&
      (List.range j).all fun i =>
        match all[i]?, log[i]? with
        | some oi, some li => !confl all oi li oj lj || m.testBit i
        | _, _ => false
    | _, _, _ => false

/-- The same, and no operation may look at all names. -/
def regOkA (all : List Oper) (log : Log) : Bool := regOk all log && !(log.any fun l => memN l.2 ALLN)
theorem regOk_edge {all : List Oper} {log : Log} (h : regOk all log = true) {j : Nat} {oj : Oper} (hj : all[j]? = some oj) : ∀ e ∈ oj.after, Region.binds .any e = true → e.on < j := by
  have hlt : j < all.length := (List.getElem?_eq_some_iff.1 hj).1
  have := List.all_eq_true.1 h j (List.mem_range.2 hlt)
  simp only [hj] at this
  split at this
  · rename_i o l m h1 h2 h3
    injection h1 with h1
    subst h1
    simp only [Bool.and_eq_true] at this
    intro e he hb
    have := List.all_eq_true.1 this.1 e (by simpa using he)
    rw [hb] at this
    simpa using this
  · cases this
theorem regOk_pair {all : List Oper} {log : Log} (h : regOk all log = true) {i j : Nat} {oi oj : Oper} {li lj : List Nat × List Nat} (hij : i < j) (hi : all[i]? = some oi) (hj : all[j]? = some oj) (hli : log[i]? = some li) (hlj : log[j]? = some lj) (hc : confl all oi li oj lj = true) :
    ∃ m, (masks all [])[j]? = some m ∧ m.testBit i = true := by
  have hlt : j < all.length := (List.getElem?_eq_some_iff.1 hj).1
  have := List.all_eq_true.1 h j (List.mem_range.2 hlt)
  simp only [hj, hlj] at this
  split at this
  · rename_i o l m h1 h2 h3
    injection h1 with h1
    injection h2 with h2
    subst h1 h2
    simp only [Bool.and_eq_true] at this
    have := List.all_eq_true.1 this.2 i (List.mem_range.2 hij)
    simp only [hi, hli, hc] at this
    exact ⟨m, h3, by simpa using this⟩
  · cases this

/-! ### Lists of marks -/
def unl : List Bool → Nat
  | [] => 0
  | b :: l => (bif b then 0 else 1) + unl l
theorem unl_set : ∀ (l : List Bool) (i : Nat), l[i]? = some false → unl (l.set i true) + 1 = unl l := by
  intro l
  induction l with
  | nil => intro i h; cases i <;> cases h
  | cons b l ih =>
    intro i h
    cases i with
    | zero => simp only [List.getElem?_cons_zero, Option.some.injEq] at h; subst h; simp only [List.set_cons_zero, unl, cond_true, cond_false]; omega
    | succ i => simp only [List.set_cons_succ, unl]; have := ih i (by simpa using h); omega
theorem unl_zero : ∀ (l : List Bool), unl l = 0 → ∀ (i : Nat), i < l.length → l[i]? = some true := by
  intro l
  induction l with
  | nil => intro _ i h; simp at h
  | cons b l ih =>
    intro h i hi
    cases b with
    | false => simp only [unl, cond_false] at h; omega
    | true =>
      cases i with
      | zero => rfl
      | succ i => simp only [unl, cond_true] at h; simpa using ih (by omega) i (by simpa using hi)

section
variable {P : Program} {cx : Cx} {T : Tys} {wd nt : Nat} {d0 : List Deferred}

theorem put_tmps {a : Act} {d : Option Tmp} {v : Value} : (a.put d v).tmps.size = a.tmps.size ∧ (a.put d v).defers = a.defers := by
  cases d with
  | none => exact ⟨rfl, rfl⟩
  | some t => exact ⟨by simp [Act.put], rfl⟩

theorem FrOk.put {r : Ren} {H : Hp} {w : World} {fr : Fr} {a : Act} (h : FrOk cx r H w fr a.tmps) {d : Option Tmp} (hd : okDst a.tmps.size d = true) {x : FV} {v : Value} (hx : x.rel r cx.X (wr r H) w v) :
    FrOk cx r H w (putD d x ++ fr) (a.put d v).tmps := by
  cases d with
  | none => exact h
  | some t =>
    intro u
    have hlt : t < a.tmps.size := Nat.le_of_ble_eq_true hd
    by_cases hu : u = t
    · subst hu
      have e1 : fget (putD (some u) x ++ fr) u = x := look_cons_eq _ _ _ _
      rw [e1]
      simpa [Act.put, hlt] using hx
    · have e1 : fget (putD (some t) x ++ fr) u = fget fr u := look_cons_ne _ _ _ hu
      rw [e1]
      have := h u
      simp only [Act.put, Array.getD_eq_getD_getElem?] at this ⊢
      rw [Array.getElem?_setIfInBounds_ne (Ne.symm hu)]
      exact this

theorem wanted_of {all : List Oper} {o : Oper} {r : Ren} {H : Hp} {w : World} {fr : Fr} {a : Act} {b : Bool} (h : FrOk cx r H w fr a.tmps) (hw : wants all o fr = some b) :
    Region.wanted o (yielded all.toArray a.tmps) = b := by
  unfold wants at hw
  unfold Region.wanted
  cases hg : o.guard with
  | none => rw [hg] at hw; simp at hw; rw [← hw]
  | some gw =>
    obtain ⟨j, want⟩ := gw
    rw [hg] at hw
    simp only at hw ⊢
    split at hw
    · rename_i t ht
      split at hw
      · rename_i c hc
        injection hw with hw
        have hv := h t
        rw [hc] at hv
        have hv' : a.tmps.getD t undef = .bool c := hv
        have hy : yielded all.toArray a.tmps j = some c := by
          have ht' : (all[j]?).bind (·.dst) = some t := ht
          have hv2 : a.tmps[t]? = some (.bool c) := by
            cases hat : a.tmps[t]? with
            | none => simp [Array.getD_eq_getD_getElem?, hat, undef] at hv'
            | some u => simp [Array.getD_eq_getD_getElem?, hat] at hv'; rw [hv']
          simp [yielded, ht', hv2]
        rw [hy, ← hw]
        cases want <;> cases c <;> rfl
      · rename_i hc
        injection hw with hw
        have hv := h t
        rw [hc] at hv
        obtain ⟨vs, hv', _, _⟩ := hv
        have hy : yielded all.toArray a.tmps j = none := by
          have ht' : (all[j]?).bind (·.dst) = some t := ht
          cases hat : a.tmps[t]? with
          | none => simp [yielded, ht', hat]
          | some u =>
            have : u = .tuple vs := by simpa [Array.getD_eq_getD_getElem?, hat] using hv'
            subst this
            simp [yielded, ht', hat]
        rw [hy, ← hw]
        rfl
      · cases hw
    · cases hw

/-- The state behind the operations that are marked. -/
structure Inv (cx : Cx) (all : List Oper) (rs : List Rec) (fr0 : Fr) (H0 : Hp) (nx wd nt : Nat) (d0 : List Deferred) (fx : Ren) (listed : Array Bool) (a : Act) (w : World) (r : Ren) : Prop where
  size : listed.size = all.length
  closed : ∀ i o, all[i]? = some o → listed.getD i false = true → ∀ e ∈ o.after, Region.binds .any e = true → listed.getD e.on false = true
  st : St cx r (sel (fun i => listed.getD i false) (hpEs rs) 0 H0) w
  fr : FrOk cx r (sel (fun i => listed.getD i false) (hpEs rs) 0 H0) w (sel (fun i => listed.getD i false) (frEs all rs) 0 fr0) a.tmps
  names : ∀ k, nx ≤ k → (∀ i, listed.getD i false = true → ¬ (nx + wd * i ≤ k ∧ k < nx + wd * i + wd)) → r k = none ∧ hget (sel (fun i => listed.getD i false) (hpEs rs) 0 H0) k = none
  tsz : a.tmps.size = nt
  defers : a.defers = d0
  low : ∀ k, k < nx → r k = fx k

theorem getD_set {l : Array Bool} {i j : Nat} (hi : i < l.size) : (l.setIfInBounds i true).getD j false = (j == i || l.getD j false) := by
  by_cases h : j = i
  · subst h; simp [hi]
  · simp [Array.getElem?_setIfInBounds_ne (Ne.symm h), h]

theorem any_order (hT : TysOk P T) {all : List Oper} {rs : List Rec} {fr0 : Fr} {H0 : Hp} {nx : Nat} (hwd : 0 < wd) (hg : Good P T wd nt all all rs fr0 H0 nx) (hok : regOk all (logOf rs) = true) (hno : ∀ rc ∈ rs, ALLN ∉ rc.rd) {fx : Ren}
    {Q : Exit → Act → World → Prop}
    (hQ : ∀ a w r, St cx r (sel (fun _ => true) (hpEs rs) 0 H0) w → FrOk cx r (sel (fun _ => true) (hpEs rs) 0 H0) w (sel (fun _ => true) (frEs all rs) 0 fr0) a.tmps → (∀ k, nx + wd * all.length ≤ k → r k = none ∧ hget (sel (fun _ => true) (hpEs rs) 0 H0) k = none) → a.tmps.size = nt → a.defers = d0 → (∀ k, k < nx → r k = fx k) → Q .normal a w) :
    ∀ (fuel : Nat) (listed : Array Bool) (a : Act) (w : World) (r : Ren), unl listed.toList = fuel → Inv cx all rs fr0 H0 nx wd nt d0 fx listed a w r → wpAny P .any all.toArray Q fuel listed a w := by
  obtain ⟨hlen, hat⟩ := Good.at _ _ _ _ _ hg
  have full : ∀ (listed : Array Bool) (a : Act) (w : World) (r : Ren), (∀ i, i < all.length → listed.getD i false = true) → Inv cx all rs fr0 H0 nx wd nt d0 fx listed a w r → Q .normal a w := by
    intro listed a w r hall inv
    have e1 : ∀ t, fget (sel (fun i => listed.getD i false) (frEs all rs) 0 fr0) t = fget (sel (fun _ => true) (frEs all rs) 0 fr0) t := fun t => sel_congr _ _ _ _ _ _ _ _ rfl fun j e he _ => by
      rw [Nat.zero_add]
      have : j < (frEs all rs).length := (List.getElem?_eq_some_iff.1 he).1
      exact hall j (by simp [frEs] at this; omega)
    have e2 : ∀ t, hget (sel (fun i => listed.getD i false) (hpEs rs) 0 H0) t = hget (sel (fun _ => true) (hpEs rs) 0 H0) t := fun t => sel_congr _ _ _ _ _ _ _ _ rfl fun j e he _ => by
      rw [Nat.zero_add]
      have : j < (hpEs rs).length := (List.getElem?_eq_some_iff.1 he).1
      exact hall j (by simp [hpEs] at this; omega)
    refine hQ a w r (inv.st.congr e2) (inv.fr.congr e2 e1) (fun k hk => ?_) inv.tsz inv.defers inv.low
    rw [← e2 k]
    refine inv.names k (by omega) fun i hi => ?_
    have : i < listed.size := by
      rcases Nat.lt_or_ge i listed.size with h | h
      · exact h
      · rw [Array.getD_eq_getD_getElem?, Array.getElem?_eq_none h] at hi; cases hi
    rw [inv.size] at this
    have h9 : wd * (i + 1) ≤ wd * all.length := Nat.mul_le_mul_left _ this
    rw [Nat.mul_add, Nat.mul_one] at h9
    omega
  have nilAll : ∀ (listed : Array Bool), listed.size = all.length → Region.ready .any all.toArray listed = [] → ∀ i, i < all.length → listed.getD i false = true := by
    intro listed hs hr i
    induction i using Nat.strongRecOn with
    | _ i ih =>
      intro hi
      cases hb : listed.getD i false with
      | true => rfl
      | false =>
        have ho : all[i]? = some all[i] := List.getElem?_eq_getElem hi
        have : i ∈ Region.ready .any all.toArray listed := mem_ready.2 ⟨by
          rw [Array.getD_eq_getD_getElem?] at hb ⊢
          rw [Array.getElem?_eq_getElem (by omega)] at hb ⊢
          exact hb, all[i], by simp [hi], fun e he hbn => by
            have hlt := regOk_edge hok ho e he hbn
            exact ih e.on hlt (by omega)⟩
        rw [hr] at this
        cases this
  intro fuel
  induction fuel with
  | zero =>
    intro listed a w r hu inv
    have hall : ∀ i, i < all.length → listed.getD i false = true := fun i hi => by
      have := unl_zero _ hu i (by simpa [inv.size] using hi)
      have h2 : listed[i]? = some true := by simpa using this
      rw [Array.getD_eq_getD_getElem?, h2]; rfl
    refine ⟨?_, full listed a w r hall inv⟩
    rw [List.eq_nil_iff_forall_not_mem]
    intro i hi
    obtain ⟨h1, o, ho, _⟩ := mem_ready.1 hi
    have hil : i < all.length := by simpa using (Array.getElem?_eq_some_iff.1 ho).1
    have := hall i hil
    rw [Array.getD_eq_getD_getElem?] at h1 this
    rw [Array.getElem?_eq_getElem (by rw [inv.size]; exact hil)] at h1 this
    simp only [Option.getD_some] at h1 this
    rw [h1] at this
    cases this
  | succ fuel ih =>
    intro listed a w r hu inv
    refine ⟨fun hr => full listed a w r (nilAll listed inv.size hr) inv, fun i hi => ?_⟩
    obtain ⟨h1, o, ho, hdeps⟩ := mem_ready.1 hi
    have hoi : all[i]? = some o := by simpa using ho
    have hil : i < all.length := (List.getElem?_eq_some_iff.1 hoi).1
    have hisz : i < listed.size := by rw [inv.size]; exact hil
    have hSi : listed.getD i false = false := by
      rw [Array.getD_eq_getD_getElem?] at h1 ⊢
      rw [Array.getElem?_eq_getElem hisz] at h1 ⊢
      exact h1
    obtain ⟨rc, hrc, hokd, hwt, hstep⟩ := hat i o hoi
    have hli : (logOf rs)[i]? = some (keysOf rc.eff, rc.rd) := by simp [logOf, hrc]
    -- what touches operation i is marked just if it stands before it
    have order : ∀ (j : Nat) (oj : Oper) (rj : Rec), all[j]? = some oj → rs[j]? = some rj → (i < j → confl all o (keysOf rc.eff, rc.rd) oj (keysOf rj.eff, rj.rd) = true) → (j < i → confl all oj (keysOf rj.eff, rj.rd) o (keysOf rc.eff, rc.rd) = true) → listed.getD j false = decide (j < i) := by
      intro j oj rj hj hrj c1 c2
      have hlj : (logOf rs)[j]? = some (keysOf rj.eff, rj.rd) := by simp [logOf, hrj]
      have hcl := masks_closed (ops := all) (Z := fun x => listed.getD x false = true) (fun x ox hx hz e he hb => inv.closed x ox hx hz e he hb) all [] (fun j => by simp) (fun i m h => by cases i <;> cases h)
      rcases Nat.lt_trichotomy j i with hji | hji | hji
      · rw [decide_eq_true hji]
        obtain ⟨m, hm, hb⟩ := regOk_pair hok hji hj hoi hlj hli (c2 hji)
        -- the marks with i laid to them are closed, too
        have hcl2 := masks_closed (ops := all) (Z := fun x => x = i ∨ listed.getD x false = true) (fun x ox hx hz e he hbn => by
          rcases hz with rfl | hz
          · rw [hoi] at hx; injection hx with hx; subst hx
            exact .inr (hdeps e he hbn)
          · exact .inr (inv.closed x ox hx hz e he hbn)) all [] (fun j => by simp) (fun i m h => by cases i <;> cases h)
        rcases hcl2 i m hm (.inl rfl) j hb with h | h
        · omega
        · exact h
      · subst hji; rw [hSi]; simp
      · rw [decide_eq_false (by omega)]
        cases hlst : listed.getD j false with
        | false => rfl
        | true =>
          obtain ⟨m, hm, hb⟩ := regOk_pair hok hji hoi hj hli hlj (c1 hji)
          have := hcl j m hm hlst i hb
          rw [hSi] at this; cases this
    have cKey : ∀ {e : Hp} {k : Nat}, hasKey e k = true → k ∈ keysOf e := by
      intro e k h
      obtain ⟨p, hp, hb⟩ := List.any_eq_true.1 h
      have := Nat.eq_of_beq_eq_true hb
      exact List.mem_map.2 ⟨p, hp, this⟩
    have frj : ∀ (j : Nat) (e : Fr) (t : Nat), (frEs all rs)[j]? = some e → hasKey e t = true → ∃ (oj : Oper) (rj : Rec), all[j]? = some oj ∧ rs[j]? = some rj ∧ oj.dst = some t ∧ e = putD oj.dst rj.val := by
      intro j e t he hk
      simp only [frEs, List.getElem?_zipWith] at he
      cases ha : all[j]? with
      | none => rw [ha] at he; cases he
      | some oj =>
        cases hr' : rs[j]? with
        | none => rw [ha, hr'] at he; cases he
        | some rj =>
          rw [ha, hr'] at he
          injection he with he
          subst he
          refine ⟨oj, rj, rfl, rfl, ?_, rfl⟩
          cases hd : oj.dst with
          | none => rw [hd] at hk; cases hk
          | some u =>
            rw [hd] at hk
            simp only [putD, hasKey, List.any_cons, List.any_nil, Bool.or_false] at hk
            rw [Nat.eq_of_beq_eq_true hk]
    have hpj : ∀ (j : Nat) (e : Hp), (hpEs rs)[j]? = some e → ∃ (oj : Oper) (rj : Rec), all[j]? = some oj ∧ rs[j]? = some rj ∧ e = rj.eff := by
      intro j e he
      simp only [hpEs, List.getElem?_map] at he
      cases hr' : rs[j]? with
      | none => rw [hr'] at he; cases he
      | some rj =>
        rw [hr'] at he
        injection he with he
        have : j < all.length := by rw [hlen]; exact (List.getElem?_eq_some_iff.1 hr').1
        exact ⟨all[j], rj, List.getElem?_eq_getElem this, rfl, he.symm⟩
    have hmeet : ∀ {a b : List Nat} {k : Nat}, k ∈ a → k ∈ b → meets a b = true := fun ha hb => List.any_eq_true.2 ⟨_, ha, memN_of hb⟩
    have frEq : ∀ t ∈ looks all o, fget (sel (fun _ => true) ((frEs all rs).take i) 0 fr0) t = fget (sel (fun i => listed.getD i false) (frEs all rs) 0 fr0) t := by
      intro t ht
      rw [← sel_take]
      refine sel_congr _ _ _ _ _ _ _ _ rfl fun j e he hk => ?_
      obtain ⟨oj, rj, h1, h2, h3, _⟩ := frj j e t he hk
      rw [Nat.zero_add, Nat.zero_add]
      refine (order j oj rj h1 h2 (fun _ => ?_) (fun _ => ?_)).symm
      · simp [confl, dstIn, h3, memN_of ht]
      · simp [confl, dstIn, h3, memN_of ht]
    have hpEq : ∀ k ∈ rc.rd, hget (sel (fun _ => true) ((hpEs rs).take i) 0 H0) k = hget (sel (fun i => listed.getD i false) (hpEs rs) 0 H0) k := by
      intro k hk
      rw [← sel_take]
      refine sel_congr _ _ _ _ _ _ _ _ rfl fun j e he hkk => ?_
      obtain ⟨oj, rj, h1, h2, rfl⟩ := hpj j e he
      rw [Nat.zero_add, Nat.zero_add]
      have hkk' := cKey hkk
      refine (order j oj rj h1 h2 (fun _ => ?_) (fun _ => ?_)).symm
      · simp [confl, hmeet hk hkk']
      · simp [confl, hmeet hkk' hk]
    have hw2 : wants all o (sel (fun i => listed.getD i false) (frEs all rs) 0 fr0) = some rc.ex := by
      rw [← hwt]
      unfold wants
      cases hgd : o.guard with
      | none => rfl
      | some gw =>
        obtain ⟨j, want⟩ := gw
        simp only
        cases hgt : guardT all j with
        | none => rfl
        | some t =>
          simp only
          rw [frEq t (by simp [looks, hgd, hgt])]
    have hwanted := wanted_of inv.fr hw2
    -- the frame and the heap behind operation i
    have frMore : ∀ t, fget (putD o.dst rc.val ++ sel (fun i => listed.getD i false) (frEs all rs) 0 fr0) t = fget (sel (fun x => (listed.setIfInBounds i true).getD x false) (frEs all rs) 0 fr0) t := by
      intro t
      have hE : (frEs all rs)[i]? = some (putD o.dst rc.val) := by simp [frEs, List.getElem?_zipWith, hoi, hrc]
      have := sel_more (d := FV.top) (fun i => listed.getD i false) (frEs all rs) 0 fr0 i (putD o.dst rc.val) t hE (by rw [Nat.zero_add]; exact hSi) (fun j e hij he hSj u hu => by
        rw [Nat.zero_add] at hSj
        cases hk : hasKey e u with
        | false => rfl
        | true =>
          obtain ⟨oj, rj, h1, h2, h3, _⟩ := frj j e u he hk
          have hdu : o.dst = some u := by
            cases hd : o.dst with
            | none => rw [hd] at hu; cases hu
            | some v =>
              rw [hd] at hu
              simp only [putD, hasKey, List.any_cons, List.any_nil, Bool.or_false] at hu
              rw [Nat.eq_of_beq_eq_true hu]
          have := order j oj rj h1 h2 (fun _ => by simp [confl, dstEq, hdu, h3]) (fun hji => by omega)
          rw [hSj, decide_eq_false (by omega)] at this
          cases this)
      rw [Nat.zero_add] at this
      show look FV.top _ t = look FV.top _ t
      rw [← this]
      refine sel_congr _ _ _ _ _ _ _ _ rfl fun j e _ _ => ?_
      rw [Nat.zero_add, getD_set hisz]
    have hpMore : ∀ t, hget (rc.eff ++ sel (fun i => listed.getD i false) (hpEs rs) 0 H0) t = hget (sel (fun x => (listed.setIfInBounds i true).getD x false) (hpEs rs) 0 H0) t := by
      intro t
      have hE : (hpEs rs)[i]? = some rc.eff := by simp [hpEs, hrc]
      have := sel_more (d := none) (fun i => listed.getD i false) (hpEs rs) 0 H0 i rc.eff t hE (by rw [Nat.zero_add]; exact hSi) (fun j e hij he hSj u hu => by
        rw [Nat.zero_add] at hSj
        cases hk : hasKey e u with
        | false => rfl
        | true =>
          obtain ⟨oj, rj, h1, h2, rfl⟩ := hpj j e he
          have := order j oj rj h1 h2 (fun _ => by simp [confl, hmeet (cKey hu) (cKey hk)]) (fun hji => by omega)
          rw [hSj, decide_eq_false (by omega)] at this
          cases this)
      rw [Nat.zero_add] at this
      show look none _ t = look none _ t
      rw [← this]
      refine sel_congr _ _ _ _ _ _ _ _ rfl fun j e _ _ => ?_
      rw [Nat.zero_add, getD_set hisz]
    have apart : ∀ j k, listed.getD j false = true → nx + wd * i ≤ k → k < nx + wd * i + wd → ¬ (nx + wd * j ≤ k ∧ k < nx + wd * j + wd) := fun j k hj h1 h2 h3 => by
      have hji : j ≠ i := fun h => by subst h; rw [hSi] at hj; cases hj
      rcases Nat.lt_or_ge j i with h | h
      · have := Nat.mul_le_mul_left wd h; rw [Nat.mul_succ] at this; omega
      · have := Nat.mul_le_mul_left wd (show i + 1 ≤ j by omega); rw [Nat.mul_add, Nat.mul_one] at this; omega
    have hfree : Free r (sel (fun i => listed.getD i false) (hpEs rs) 0 H0) (nx + wd * i) wd := fun k h1 h2 => inv.names k (by omega) fun j hj => apart j k hj h1 h2
    have hunl : unl (listed.setIfInBounds i true).toList = fuel := by
      have := unl_set listed.toList i (by
        have : listed[i]? = some false := by
          rw [Array.getD_eq_getD_getElem?] at hSi
          rw [Array.getElem?_eq_getElem hisz] at hSi ⊢
          simpa using hSi
        simpa using this)
      rw [Array.toList_setIfInBounds]
      omega
    have next : ∀ (v : Value) (w' : World) (r' : Ren), Ext r (wr r (sel (fun i => listed.getD i false) (hpEs rs) 0 H0)) w r' (wr r' (rc.eff ++ sel (fun i => listed.getD i false) (hpEs rs) 0 H0)) w' → St cx r' (rc.eff ++ sel (fun i => listed.getD i false) (hpEs rs) 0 H0) w' →
        (∀ k, k < nx + wd * i ∨ nx + wd * i + wd ≤ k → r' k = r k) → (∀ k e, hget (rc.eff ++ sel (fun i => listed.getD i false) (hpEs rs) 0 H0) k = some e → ((nx + wd * i ≤ k ∨ ALLN ∈ rc.rd) ∧ k < nx + wd * i + wd) ∨ ∃ e', hget (sel (fun i => listed.getD i false) (hpEs rs) 0 H0) k = some e') → rc.val.rel r' cx.X (wr r' (rc.eff ++ sel (fun i => listed.getD i false) (hpEs rs) 0 H0)) w' v → wpAny P .any all.toArray Q fuel (listed.setIfInBounds i true) (a.put o.dst v) w' := by
      intro v w' r' hext hst hr' hnew hrel
      refine ih _ _ _ r' hunl ⟨by simp [inv.size], fun x ox hx hz e he hb => ?_, hst.congr hpMore, ?_, fun k hk hkn => ?_, by rw [put_tmps.1]; exact inv.tsz, by rw [put_tmps.2]; exact inv.defers, fun k hk => by rw [hr' k (.inl (by omega))]; exact inv.low k hk⟩
      · rw [getD_set hisz] at hz ⊢
        simp only [Bool.or_eq_true, beq_iff_eq] at hz ⊢
        rcases hz with rfl | hz
        · rw [hoi] at hx; injection hx with hx; subst hx
          exact .inr (hdeps e he hb)
        · exact .inr (inv.closed x ox hx hz e he hb)
      · exact (FrOk.put (inv.fr.ext hext) (by rw [inv.tsz]; exact hokd) hrel).congr hpMore frMore
      · have hki : ¬ (nx + wd * i ≤ k ∧ k < nx + wd * i + wd) := hkn i (by rw [getD_set hisz]; simp)
        have hold := inv.names k hk fun j hj => hkn j (by rw [getD_set hisz, hj]; simp)
        rw [hr' k (by omega), ← hpMore k]
        refine ⟨hold.1, ?_⟩
        cases hh : hget (rc.eff ++ sel (fun i => listed.getD i false) (hpEs rs) 0 H0) k with
        | none => rfl
        | some e =>
          rcases hnew k e hh with h | ⟨e', h⟩
          · exact absurd ⟨h.1.resolve_right (hno rc (List.mem_of_getElem? hrc)), h.2⟩ hki
          · rw [hold.2] at h; cases h
    unfold wpOp
    simp only [ho, hwanted]
    cases hex : rc.ex with
    | true =>
      rw [hex] at hstep
      obtain ⟨sr, hs, hv, he, hrd⟩ := hstep
      have hno' : ALLN ∉ sr.rd := by rw [hrd]; exact hno rc (List.mem_of_getElem? hrc)
      have hs2 := stp_congr hs (fun t ht => frEq t (by simp [looks, ht])) (fun k hk => hpEq k (by rw [← hrd]; exact hk)) hno'
      rw [if_pos rfl]
      refine .inl (stp_ok hT hs2 inv.st inv.fr hfree (fun h => absurd h hno') hwd fun v w' hleft => ?_)
      obtain ⟨r', g1, g2, g3, g5, g4⟩ := hleft
      rw [he] at g1 g2 g4 g5
      rw [hv] at g4
      exact next v w' r' g1 g2 g3 (by rw [hrd] at g5; exact g5) g4
    | false =>
      rw [hex] at hstep
      obtain ⟨hv, he, hrd⟩ := hstep
      rw [if_neg (by simp)]
      refine next undef w r ?_ ?_ (fun _ _ => rfl) ?_ ?_
      · rw [he]; exact Ext.refl _ _ _
      · rw [he]; exact inv.st
      · rw [he]; exact fun k e h => .inr ⟨e, h⟩
      · rw [hv]; exact ⟨#[], rfl, rfl, fun i x u h => by cases h⟩
end
end Go.Proofs.Ytjknkfjhcapocaa.AX
