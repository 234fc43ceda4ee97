/- One operation: the abstract step is sound. -/
import Derived.Test.YtjknkfjhcapocaaBOp
namespace Go.Proofs.Ytjknkfjhcapocaa.AX
open Go.RowKit
set_option linter.unusedVariables false
set_option linter.unusedSimpArgs false

theorem addN (b o i : Nat) : (Addr.add ⟨b, o, none⟩ i) = ⟨b, o + i, none⟩ := by
  unfold Addr.add; split
  · subst_vars; rfl
  · rfl
theorem addS {a : Addr} (h : a.spot = none) (i : Nat) : a.add i = ⟨a.block, a.off + i, none⟩ := by
  obtain ⟨b, o, s⟩ := a
  simp only at h; subst h
  exact addN b o i

theorem oneCell_of {v : Value} (h : isCell v) : v.oneCell' = true := by
  cases v <;> first | rfl | exact h.elim

/-! ### Rows of cells read and written -/
theorem run_loadCellsFrom (P : Program) (w : World) (a : Addr) : ∀ (n k : Nat) (acc : Array Value), (∀ i, i < n → ∃ u, w.cell? (a.add (k + i)) = some u) →
    ∃ cs, (loadCellsFrom a k n acc).run P w = .ok cs w ∧ cs.size = acc.size + n ∧ (∀ i, i < acc.size → cs[i]? = acc[i]?) ∧ ∀ i, i < n → cs[acc.size + i]? = w.cell? (a.add (k + i)) := by
  intro n
  induction n with
  | zero => intro k acc _; exact ⟨acc, rfl, rfl, fun _ _ => rfl, fun i hi => absurd hi (Nat.not_lt_zero _)⟩
  | succ n ih =>
    intro k acc h
    obtain ⟨u, hu⟩ := h 0 (by omega)
    rw [Nat.add_zero] at hu
    obtain ⟨cs, h1, h2, h3, h4⟩ := ih (k + 1) (acc.push u) (fun i hi => by
      have := h (i + 1) (by omega)
      rwa [show k + (i + 1) = k + 1 + i by omega] at this)
    refine ⟨cs, ?_, ?_, fun i hi => ?_, fun i hi => ?_⟩
    · simp only [loadCellsFrom, Sem.run_bind, run_load, hu, Result.andThen_ok]
      exact h1
    · rw [h2, Array.size_push]; omega
    · rw [h3 i (by rw [Array.size_push]; omega), Array.getElem?_push, if_neg (by omega)]
    · cases i with
      | zero => rw [Nat.add_zero, Nat.add_zero, hu, h3 _ (by rw [Array.size_push]; omega), Array.getElem?_push, if_pos rfl]
      | succ i =>
        have := h4 i (by omega)
        rw [Array.size_push] at this
        rw [show acc.size + (i + 1) = acc.size + 1 + i by omega, this, show k + 1 + i = k + (i + 1) by omega]
theorem run_loadCells (P : Program) (w : World) (a : Addr) (n : Nat) (h : ∀ i, i < n → ∃ u, w.cell? (a.add i) = some u) :
    ∃ cs, (loadCells a n).run P w = .ok cs w ∧ cs.size = n ∧ ∀ i, i < n → cs[i]? = w.cell? (a.add i) := by
  obtain ⟨cs, h1, h2, _, h4⟩ := run_loadCellsFrom P w a n 0 #[] (fun i hi => by rw [Nat.zero_add]; exact h i hi)
  refine ⟨cs, h1, by simpa using h2, fun i hi => ?_⟩
  have := h4 i hi
  simpa using this

/-- The cells vs laid over cs from i on. -/
def ovl (cs : Array Value) (i : Nat) : List Value → Array Value
  | [] => cs
  | v :: vs => ovl (cs.setIfInBounds i v) (i + 1) vs
theorem ovl_size : ∀ (vs : List Value) (cs : Array Value) (i : Nat), (ovl cs i vs).size = cs.size := by
  intro vs
  induction vs with
  | nil => intro cs i; rfl
  | cons v vs ih => intro cs i; rw [ovl, ih]; simp
theorem ovl_get : ∀ (vs : List Value) (cs : Array Value) (i : Nat), i + vs.length ≤ cs.size → ∀ j, (ovl cs i vs)[j]? = if i ≤ j ∧ j < i + vs.length then vs[j - i]? else cs[j]? := by
  intro vs
  induction vs with
  | nil => intro cs i _ j; rw [if_neg (by simp only [List.length_nil]; omega)]; rfl
  | cons v vs ih =>
    intro cs i h j
    simp only [List.length_cons] at h ⊢
    rw [ovl, ih _ _ (by simp; omega)]
    by_cases h1 : i + 1 ≤ j ∧ j < i + 1 + vs.length
    · rw [if_pos h1, if_pos (by omega)]
      rw [show j - i = (j - (i + 1)) + 1 by omega]
      rfl
    · rw [if_neg h1]
      by_cases hj : j = i
      · subst hj
        rw [if_pos (by omega), Nat.sub_self]
        simp [Array.getElem?_setIfInBounds, show j < cs.size by omega]
      · rw [if_neg (by omega), Array.getElem?_setIfInBounds_ne (by omega)]

theorem run_storeCells (P : Program) (b off : Nat) (t : TypeId) : ∀ (vs : List Value) (k : Nat) (w : World) (cs : Array Value), w.heap[b]? = some (.cells cs t (0, 0)) → off + k + vs.length ≤ cs.size → (∀ v ∈ vs, isCell v) →
    ∃ w', (storeCells ⟨b, off, none⟩ vs k).run P w = .ok () w' ∧ w'.os = w.os ∧ w'.tape = w.tape ∧ w'.output = w.output ∧ w'.heap.size = w.heap.size ∧ (∀ x, x ≠ b → w'.heap[x]? = w.heap[x]?) ∧ w'.heap[b]? = some (.cells (ovl cs (off + k) vs) t (0, 0)) := by
  intro vs
  induction vs with
  | nil => intro k w cs h _ _; exact ⟨w, rfl, rfl, rfl, rfl, rfl, fun _ _ => rfl, h⟩
  | cons v vs ih =>
    intro k w cs h hl hv
    simp only [List.length_cons] at hl
    have hc : ∃ u, w.cell? ⟨b, off + k, none⟩ = some u := by
      refine ⟨cs[off + k]'(by omega), ?_⟩
      simp [World.cell?, h, Array.getElem?_eq_getElem (show off + k < cs.size by omega)]
    obtain ⟨u, hu⟩ := hc
    have hfz : w.frozen? ⟨b, off + k, none⟩ = false := by simp [World.frozen?, h]
    have hh : (w.setCell ⟨b, off + k, none⟩ v).heap[b]? = some (.cells (cs.setIfInBounds (off + k) v) t (0, 0)) := by
      simp [World.setCell, Array.getElem?_modify, h]
    obtain ⟨w', h1, h2, h3, h4, h5, h6, h7⟩ := ih (k + 1) (w.setCell ⟨b, off + k, none⟩ v) _ hh (by simp; omega) (fun x hx => hv x (List.mem_cons_of_mem _ hx))
    refine ⟨w', ?_, h2, h3, h4, by rw [h5]; simp [World.setCell], fun x hx => ?_, ?_⟩
    · simp only [storeCells, Sem.run_bind, addN, run_store _ _ _ _ _ (oneCell_of (hv v (List.mem_cons_self ..))), hu, hfz, Result.andThen_ok]
      exact h1
    · rw [h6 x hx]
      exact Below.heap_setCell w _ v x hx
    · rw [h7, show off + (k + 1) = off + k + 1 by omega, ovl]

theorem fv_e {r X W w} {x : FV} {v : Value} {y : EV} (h : x.rel r X W w v) (e : x = .e y) : y.rel r X W w v := by subst e; exact h

theorem cells_rel {r X W w} {x : EV} {v : Value} {n : Nat} {f : Nat → CV} (h : x.rel r X W w v) (hc : cellsOf x = some (n, f)) :
    v.cells.size = n ∧ (∀ i u, v.cells[i]? = some u → (f i).rel r X W w u) ∧ ∀ u ∈ v.cells.toList, isCell u := by
  cases x with
  | c x =>
    have hx : x.rel r X W w v := h
    have hcell := rel_isCell hx
    have hn : n = 1 ∧ f = fun _ => x := by cases x <;> simp [cellsOf] at hc <;> exact ⟨hc.1.symm, hc.2.symm⟩
    obtain ⟨rfl, rfl⟩ := hn
    have hvc : v.cells = #[v] := by cases v <;> first | rfl | exact hcell.elim
    rw [hvc]
    refine ⟨rfl, fun i u hu => ?_, fun u hu => ?_⟩
    · cases i with
      | zero => simp at hu; subst hu; exact hx
      | succ i => simp at hu
    · simp at hu; subst hu; exact hcell
  | agg m g =>
    obtain ⟨cs, rfl, hs, hg⟩ := h
    simp [cellsOf] at hc
    obtain ⟨rfl, rfl⟩ := hc
    refine ⟨hs, hg, fun u hu => ?_⟩
    obtain ⟨i, hi, rfl⟩ := Array.mem_iff_getElem.1 (Array.mem_toList_iff.1 hu)
    exact rel_isCell (hg i _ (Array.getElem?_eq_getElem hi))

/-- The load of a variable whose cells are known. -/
theorem load_ok {P : Program} {t : TypeId} {ti : TI} (hT : tyChk P t ti) {r X W w} {m : Nat} {g : Nat → CV} {lit : Bool} {q : Option Prop} {rd : List Nat} {sr : SR} (hs : loadF ti m g lit q rd = some sr) (hp : preOk sr.pre)
    {b off : Nat} (hc : preOk q → ∀ j, j < m → ∃ u, w.cell? ⟨b, off + j, none⟩ = some u ∧ (g j).rel r X W w u) :
    ∃ v, (loadVar t ⟨b, off, none⟩).run P w = .ok v w ∧ sr.eff = [] ∧ sr.val.rel r X W w v := by
  obtain ⟨i, z, hi, hsz, _⟩ := hT.info
  obtain ⟨d, hd, htd⟩ := hT.under
  have agg : isAggD d = true → some sr = some (⟨both q (fits lit ti.size m), .e (.agg ti.size g), [], rd⟩ : SR) → ∃ v, (loadVar t ⟨b, off, none⟩).run P w = .ok v w ∧ sr.eff = [] ∧ sr.val.rel r X W w v := by
    intro ha hsr
    injection hsr with hsr
    subst hsr
    obtain ⟨hq, hp'⟩ := both_ok.1 hp
    have hp' : ti.size ≤ m := fits_ok hp'
    have hc := hc hq
    obtain ⟨cs, h1, h2, h3⟩ := run_loadCells P w ⟨b, off, none⟩ ti.size (fun i hi => by
      obtain ⟨u, hu, _⟩ := hc i (by omega)
      exact ⟨u, by rw [addN]; exact hu⟩)
    refine ⟨.agg cs, ?_, rfl, cs, rfl, h2, fun j u hu => ?_⟩
    · have hA : (isAgg t).run P w = .ok true w := by
        simp only [isAgg, Sem.run_bind, run_underlying hd, Result.andThen_ok]
        cases d <;> first | rfl | cases ha
      simp only [loadVar, Sem.run_bind, hA, Result.andThen_ok, if_true, sizeOf, typeInfo, run_program, hi, Sem.run_pure, hsz, h1]
    · have hj : j < ti.size := by
        have := (Array.getElem?_eq_some_iff.1 hu).1
        omega
      have h4 := h3 j hj
      rw [addN] at h4
      obtain ⟨u', hu', hr⟩ := hc j (by omega)
      rw [hu, hu'] at h4
      injection h4 with h4
      subst h4
      exact hr
  have plain : isAggD d = false → some sr = some (⟨both q (fits lit 1 m), .e (.c (g 0)), [], rd⟩ : SR) → ∃ v, (loadVar t ⟨b, off, none⟩).run P w = .ok v w ∧ sr.eff = [] ∧ sr.val.rel r X W w v := by
    intro ha hsr
    injection hsr with hsr
    subst hsr
    obtain ⟨hq, hp'⟩ := both_ok.1 hp
    obtain ⟨u, hu, hr⟩ := hc hq 0 (fits_ok hp')
    rw [Nat.add_zero] at hu
    refine ⟨u, ?_, rfl, hr⟩
    have hA : (isAgg t).run P w = .ok false w := by
      simp only [isAgg, Sem.run_bind, run_underlying hd, Result.andThen_ok]
      cases d <;> first | rfl | cases ha
    simp only [loadVar, Sem.run_bind, hA, Result.andThen_ok, run_load, hu, Bool.false_eq_true, if_false]
  obtain ⟨tid, tis, tiz, tie, tib⟩ := ti
  simp only at htd
  subst htd
  unfold loadF at hs
  cases d <;> simp only [tdOf, CV.see_eq] at hs <;> first | exact agg rfl hs.symm | exact plain rfl hs.symm
end Go.Proofs.Ytjknkfjhcapocaa.AX
