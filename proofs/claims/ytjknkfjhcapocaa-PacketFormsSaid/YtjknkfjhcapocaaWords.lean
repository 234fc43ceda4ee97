/- Words for memory: a slice that reads as a list of cells, nil let in; nothing of the program in sight. -/
import Derived.WalkKit
import Derived.OpenShut
import Derived.Below
import Derived.Lib.Hide
import Derived.Laws.OwnMore
import Derived.Laws.Rows
import Derived.Deep.AppendLies
import Derived.Deep.Draws
import Derived.Deep.QuietTactic
namespace Go.Proofs.Ytjknkfjhcapocaa
open Go.RowKit

theorem block_of_add (a : Addr) (n : Nat) : (a.add n).block = a.block := by unfold Addr.add; split <;> rfl
theorem add_of_add (a : Addr) (i j : Nat) : (a.add i).add j = a.add (i + j) := by
  unfold Addr.add
  by_cases hi : i = 0 <;> by_cases hj : j = 0 <;> simp [hi, hj, Nat.add_assoc]
theorem add_zero_ (a : Addr) : a.add 0 = a := by unfold Addr.add; simp

theorem cell_lt {w : World} {p : Addr} {u : Value} (h : w.cell? p = some u) : p.block < w.heap.size := by
  rcases Nat.lt_or_ge p.block w.heap.size with h1 | h1
  · exact h1
  · have : w.heap[p.block]? = none := Array.getElem?_eq_none h1
    simp [World.cell?, this] at h

/-- Quiet calls, for contracts that state that the world is as it was. -/
theorem quiet_add_left {P : Program} {f : FuncId} {args : Array Value} {w : World} {a n : Nat} {v : Value}
    (h : Calls P f args (w.drewN (a + n)) fun e w' => e = .returned v ∧ w.drewN (a + n) = w') :
    Calls P f args (w.drewN (a + n)) fun e w'' => e = .returned v ∧ ∃ m, w'' = w.drewN (a + m) :=
  h.mono fun _ _ ⟨he, hm⟩ => ⟨he, n, hm.symm⟩
theorem quiet_left {P : Program} {f : FuncId} {args : Array Value} {w : World} {n : Nat} {v : Value}
    (h : Calls P f args (w.drewN n) fun e w' => e = .returned v ∧ w.drewN n = w') : Calls P f args (w.drewN n) fun e w'' => e = .returned v ∧ ∃ m, w'' = w.drewN m :=
  h.mono fun _ _ ⟨he, hm⟩ => ⟨he, n, hm.symm⟩
theorem bel_drewN {w w' : World} (h : Below w.heap.size w w') (n : Nat) : Below w.heap.size w (w'.drewN n) := ⟨h.os, h.tape, h.output, h.size, h.block⟩

/-- The block g is just the cells cs of the element type t, none of them frozen. -/
def Blk (w : World) (g : Nat) (t : TypeId) (cs : List Value) : Prop := w.heap[g]? = some (.cells cs.toArray t (0, 0))
section
variable {w w' : World} {g : Nat} {t : TypeId} {cs : List Value}
theorem Blk.lt (h : Blk w g t cs) : g < w.heap.size := by
  rcases Nat.lt_or_ge g w.heap.size with hlt | hge
  · exact hlt
  · unfold Blk at h; rw [Array.getElem?_eq_none hge] at h; cases h
theorem Blk.cell (h : Blk w g t cs) (i : Nat) : w.cell? ⟨g, i, none⟩ = cs[i]? := by
  rw [cell_of_row w g i cs.toArray t (0, 0) h]; simp
theorem Blk.frozen (h : Blk w g t cs) (i : Nat) : w.frozen? ⟨g, i, none⟩ = false := by
  unfold Blk at h
  simp [World.frozen?, h]
theorem Blk.new (w : World) (t : TypeId) (cs : List Value) : Blk (w.alloc (.cells cs.toArray t)) w.heap.size t cs := heap_alloc_new w _
theorem Blk.drew (h : Blk w g t cs) : Blk w.drew g t cs := h
theorem Blk.drewN (h : Blk w g t cs) (n : Nat) : Blk (w.drewN n) g t cs := h
theorem Blk.alloc (h : Blk w g t cs) (o : Obj) : Blk (w.alloc o) g t cs := (Below.heap_alloc w o g h.lt).trans h
theorem Blk.set_ (h : Blk w g t cs) (i : Nat) (u : Value) : Blk (w.setCell ⟨g, i, none⟩ u) g t (cs.set i u) := by
  unfold Blk at h ⊢
  simp [World.setCell, Array.getElem?_modify, h]
theorem Blk.far (h : Blk w g t cs) {p : Addr} (hp : g ≠ p.block) (u : Value) : Blk (w.setCell p u) g t cs := (Below.heap_setCell w p u g hp).trans h
theorem Blk.below (h : Blk w g t cs) (hb : Below w.heap.size w w') : Blk w' g t cs := (hb.block g h.lt).trans h
end

/-- The slice with the address A holds the cells xs (A may be nil where there are none). -/
def Row (w : World) (A : Option Addr) (xs : List Value) : Prop := ∀ (j : Nat) (u : Value), xs[j]? = some u → ∃ ad, A = some ad ∧ w.cell? (ad.add j) = some u

section
variable {w w' : World} {A : Option Addr} {xs ys : List Value}
theorem Row.nil : Row w A [] := fun j u h => by simp at h
theorem Row.cell (h : Row w A xs) {k : Nat} (hk : k < xs.length) : ∃ ad, A = some ad ∧ ad.block < w.heap.size ∧ w.cell? (ad.add k) = some xs[k] := by
  obtain ⟨ad, e, hc⟩ := h k xs[k] (List.getElem?_eq_getElem hk)
  exact ⟨ad, e, by have := cell_lt hc; rwa [block_of_add] at this, hc⟩
theorem Row.keep (h : Row w A xs) (hk : ∀ p : Addr, p.block < w.heap.size → w'.cell? p = w.cell? p) : Row w' A xs := fun j u hu => by
  obtain ⟨ad, e, hc⟩ := h j u hu
  exact ⟨ad, e, (hk _ (cell_lt hc)).trans hc⟩
theorem Row.below (h : Row w A xs) (hb : Below w.heap.size w w') : Row w' A xs := h.keep fun _ hp => hb.cell hp
theorem Row.drew (h : Row w A xs) : Row w.drew A xs := h
theorem Row.drewN (h : Row w A xs) (k : Nat) : Row (w.drewN k) A xs := h
theorem Row.alloc (h : Row w A xs) (o : Obj) : Row (w.alloc o) A xs := h.keep fun p hp => World.cell?_alloc_lt w o p hp
theorem Row.take (h : Row w A xs) (n : Nat) : Row w A (xs.take n) := fun j u hu => by
  rw [List.getElem?_take] at hu
  split at hu
  · exact h j u hu
  · cases hu
theorem Row.drop (h : Row w A xs) (k : Nat) : Row w (A.map (·.add k)) (xs.drop k) := fun j u hu => by
  rw [List.getElem?_drop] at hu
  obtain ⟨ad, rfl, hc⟩ := h _ u hu
  exact ⟨ad.add k, rfl, by rw [add_of_add]; exact hc⟩
theorem Row.cut (h : Row w A xs) {k cap : Nat} (hc : xs.length ≤ cap) : Row w (if cap = k then A else A.map (·.add k)) (xs.drop k) := by
  split
  · rw [List.drop_eq_nil_of_le (by omega)]; exact Row.nil
  · exact h.drop k
end

/-- The cells of a string of bytes. -/
def bv (l : List UInt8) : List Value := l.map fun c => .int .u8 (c.toNat : Int)
@[simp] theorem bv_length (l : List UInt8) : (bv l).length = l.length := by simp [bv]
theorem bv_take (l : List UInt8) (k : Nat) : (bv l).take k = bv (l.take k) := by simp [bv]
theorem bv_drop (l : List UInt8) (k : Nat) : (bv l).drop k = bv (l.drop k) := by simp [bv]
theorem bv_append (l m : List UInt8) : bv (l ++ m) = bv l ++ bv m := by simp [bv]

theorem Row.byte {w : World} {A : Option Addr} {l : List UInt8} (h : Row w A (bv l)) {k : Nat} (hk : k < l.length) :
    ∃ ad, A = some ad ∧ ad.block < w.heap.size ∧ w.cell? (ad.add k) = some (.int .u8 (l[k].toNat : Int)) := by
  obtain ⟨ad, e, hb, hc⟩ := h.cell (k := k) (by simpa using hk)
  exact ⟨ad, e, hb, by simpa [bv] using hc⟩

/-- Where the cells of a row lie. -/
theorem Row.place {w : World} {A : Option Addr} {xs : List Value} (h : Row w A xs) (hx : 0 < xs.length) :
    ∃ b off, A = some ⟨b, off, none⟩ ∧ b < w.heap.size ∧ ∀ j u, xs[j]? = some u → w.cell? ⟨b, off + j, none⟩ = some u := by
  obtain ⟨⟨b, off, spot⟩, e, hb, hc⟩ := h.cell hx
  have hs : spot = none := by simpa [Addr.add] using World.cell?_spot hc
  subst hs
  refine ⟨b, off, e, hb, fun j u hu => ?_⟩
  obtain ⟨ad, e', hc'⟩ := h j u hu
  rw [e] at e'
  injection e' with e'
  subst e'
  rw [← hc']
  congr 1
  unfold Addr.add
  split <;> simp_all
theorem Row.bytes {w : World} {A : Option Addr} {l : List UInt8} (h : Row w A (bv l)) (hx : 0 < l.length) :
    ∃ b off, A = some ⟨b, off, none⟩ ∧ b < w.heap.size ∧ ∀ (k : Nat) (hk : k < l.length), w.cell? ⟨b, off + k, none⟩ = some (.int .u8 (l[k].toNat : Int)) := by
  obtain ⟨b, off, e, hb, hc⟩ := h.place (by simpa using hx)
  exact ⟨b, off, e, hb, fun k hk => hc k _ (by simp [bv, List.getElem?_eq_getElem hk])⟩

/-- A slice of byte slices reads as ls. -/
def Parts (w : World) (A : Option Addr) (ls : List (List UInt8)) : Prop :=
  ∀ (j : Nat) (l : List UInt8), ls[j]? = some l → ∃ ad B c, A = some ad ∧ w.cell? (ad.add j) = some (.slice B l.length c) ∧ l.length ≤ c ∧ Row w B (bv l)
theorem Parts.cell {w : World} {A : Option Addr} {ls : List (List UInt8)} (h : Parts w A ls) {k : Nat} (hk : k < ls.length) :
    ∃ ad B c, A = some ad ∧ ad.block < w.heap.size ∧ w.cell? (ad.add k) = some (.slice B ls[k].length c) ∧ Row w B (bv ls[k]) := by
  obtain ⟨ad, B, c, e, hc, _, hr⟩ := h k ls[k] (List.getElem?_eq_getElem hk)
  exact ⟨ad, B, c, e, by have := cell_lt hc; rwa [block_of_add] at this, hc, hr⟩
theorem Parts.below {w w' : World} {A : Option Addr} {ls : List (List UInt8)} (h : Parts w A ls) (hb : Below w.heap.size w w') : Parts w' A ls := fun j l hl => by
  obtain ⟨ad, B, c, e, hc, hle, hr⟩ := h j l hl
  exact ⟨ad, B, c, e, (hb.cell (cell_lt hc)).trans hc, hle, hr.below hb⟩

/-- The value is a slice that reads as l. -/
def Sl (w : World) (v : Value) (l : List UInt8) : Prop := ∃ A c, v = .slice A l.length c ∧ l.length ≤ c ∧ Row w A (bv l)
theorem Sl.below {w w' : World} {v : Value} {l : List UInt8} (h : Sl w v l) (hb : Below w.heap.size w w') : Sl w' v l := by
  obtain ⟨A, c, e, hc, hr⟩ := h
  exact ⟨A, c, e, hc, hr.below hb⟩
theorem sl_mk {w : World} {A : Option Addr} {n c : Nat} {l : List UInt8} (hn : l.length = n) (hc : n ≤ c) (h : Row w A (bv l)) : Sl w (.slice A n c) l := ⟨A, c, by rw [hn], by omega, h⟩
/-- b[i:m] -/
theorem sl_cut {w : World} {A : Option Addr} {cap i m : Nat} {l : List UInt8} (h : Row w A (bv l)) (hc : l.length ≤ cap) (hi : i ≤ m) (hm : m ≤ l.length) :
    Sl w (.slice (if cap = i then A else A.map (·.add i)) (m - i) (cap - i)) ((l.take m).drop i) := by
  refine sl_mk (by simp; omega) (by omega) ?_
  rw [← bv_drop, ← bv_take]
  exact (h.take m).cut (by simp; omega)
/-- b[i:] -/
theorem sl_from {w : World} {A : Option Addr} {cap i : Nat} {l : List UInt8} (h : Row w A (bv l)) (hc : l.length ≤ cap) (hi : i ≤ l.length) :
    Sl w (.slice (if cap = i then A else A.map (·.add i)) (l.length - i) (cap - i)) (l.drop i) := by
  refine sl_mk (by simp) (by omega) ?_
  rw [← bv_drop]
  exact h.cut (by simp; omega)
/-- b[:m] -/
theorem sl_to {w : World} {A : Option Addr} {cap m : Nat} {l : List UInt8} (h : Row w A (bv l)) (hc : l.length ≤ cap) (hm : m ≤ l.length) : Sl w (.slice A m cap) (l.take m) := by
  refine sl_mk (by simp; omega) (by omega) ?_
  rw [← bv_take]
  exact h.take m
theorem bel_alloc {w w' : World} (h : Below w.heap.size w w') (o : Obj) : Below w.heap.size w (w'.alloc o) := h.alloc h.size o
theorem bel_trans {w w' w'' : World} (h : Below w.heap.size w w') (k : Below w'.heap.size w' w'') : Below w.heap.size w w'' := h.trans (k.mono h.size)

theorem parts_1 {w : World} {g : Nat} {v0 : Value} {l0 : List UInt8} (h0 : w.cell? ⟨g, 0, none⟩ = some v0) (s0 : Sl w v0 l0) : Parts w (some ⟨g, 0, none⟩) [l0] := fun j l hl => by
  match j, hl with
  | 0, hl =>
    obtain rfl : l0 = l := by simpa using hl
    obtain ⟨A, c, rfl, hc, hr⟩ := s0
    exact ⟨_, A, c, rfl, by simpa [Addr.add] using h0, hc, hr⟩
theorem parts_3 {w : World} {g : Nat} {v0 v1 v2 : Value} {l0 l1 l2 : List UInt8} (h0 : w.cell? ⟨g, 0, none⟩ = some v0) (h1 : w.cell? ⟨g, 1, none⟩ = some v1) (h2 : w.cell? ⟨g, 2, none⟩ = some v2)
    (s0 : Sl w v0 l0) (s1 : Sl w v1 l1) (s2 : Sl w v2 l2) : Parts w (some ⟨g, 0, none⟩) [l0, l1, l2] := fun j l hl => by
  match j, hl with
  | 0, hl =>
    obtain rfl : l0 = l := by simpa using hl
    obtain ⟨A, c, rfl, hc, hr⟩ := s0
    exact ⟨_, A, c, rfl, by simpa [Addr.add] using h0, hc, hr⟩
  | 1, hl =>
    obtain rfl : l1 = l := by simpa using hl
    obtain ⟨A, c, rfl, hc, hr⟩ := s1
    exact ⟨_, A, c, rfl, by simpa [Addr.add] using h1, hc, hr⟩
  | 2, hl =>
    obtain rfl : l2 = l := by simpa using hl
    obtain ⟨A, c, rfl, hc, hr⟩ := s2
    exact ⟨_, A, c, rfl, by simpa [Addr.add] using h2, hc, hr⟩
theorem parts_2 {w : World} {g : Nat} {v0 v1 : Value} {l0 l1 : List UInt8} (h0 : w.cell? ⟨g, 0, none⟩ = some v0) (h1 : w.cell? ⟨g, 1, none⟩ = some v1)
    (s0 : Sl w v0 l0) (s1 : Sl w v1 l1) : Parts w (some ⟨g, 0, none⟩) [l0, l1] := fun j l hl => by
  match j, hl with
  | 0, hl =>
    obtain rfl : l0 = l := by simpa using hl
    obtain ⟨A, c, rfl, hc, hr⟩ := s0
    exact ⟨_, A, c, rfl, by simpa [Addr.add] using h0, hc, hr⟩
  | 1, hl =>
    obtain rfl : l1 = l := by simpa using hl
    obtain ⟨A, c, rfl, hc, hr⟩ := s1
    exact ⟨_, A, c, rfl, by simpa [Addr.add] using h1, hc, hr⟩

/-- What a row of integers that came in is for the walk: see the shells of the proofs. -/
def IsRow (k : IntKind) (w : World) (a : Option Addr) (len cap : Nat) (zs : List Int) : Prop :=
  (a = none ∧ len = 0 ∧ cap = 0 ∧ zs = []) ∨
  ∃ x, a = some x ∧ len ≤ cap ∧ cap ≤ maxLen ∧ zs.length = cap ∧ (∀ i, i < zs.length → w.cell? (x.add i) = some (.int k (zs.getD i 0))) ∧ ∀ n ∈ zs, (Lit.int k n).wf = true

/-- A row of bytes that came in, as a list of bytes. -/
theorem IsRow.bytes {w : World} {a : Option Addr} {len cap : Nat} {zs : List Int} (h : IsRow .u8 w a len cap zs) : ∃ l : List UInt8, l.length = len ∧ len ≤ cap ∧ cap ≤ maxLen ∧ Row w a (bv l) := by
  rcases h with ⟨rfl, rfl, rfl, rfl⟩ | ⟨x, rfl, hl, hm, hz, hc, hw⟩
  · exact ⟨[], rfl, Nat.le_refl _, by simp [maxLen], Row.nil⟩
  · refine ⟨(zs.take len).map fun n => UInt8.ofNat n.toNat, by simp; omega, hl, hm, fun j u hu => ⟨x, rfl, ?_⟩⟩
    simp [bv, List.getElem?_take] at hu
    obtain ⟨hj, z, hz1, rfl⟩ := hu
    have hjz : j < zs.length := (List.getElem?_eq_some_iff.1 hz1).1
    rw [hc j hjz]
    have e : zs.getD j 0 = z := by simp [hz1]
    have hwf := bounds_u8 (hw z (List.mem_of_getElem? hz1))
    rw [e]
    simp only [Option.some.injEq, Value.int.injEq, true_and]
    omega
end Go.Proofs.Ytjknkfjhcapocaa
