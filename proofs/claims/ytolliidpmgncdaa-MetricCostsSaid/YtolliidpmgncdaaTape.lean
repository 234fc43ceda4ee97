/- The contracts of the tape of numbers: New and Next. What is read is some number in range. -/
import Derived.Test.YtolliidpmgncdaaMod
import Derived.Deep.QuietTactic
import Derived.BigQuiet
import Derived.Outline
namespace Go.Proofs.Ytolliidpmgncdaa
open Go.RowKit
set_option linter.unusedVariables false

/-- The cells of a slice of ints. -/
def iv (l : List Int) : List Value := l.map fun c => .int .i64 c
@[simp] theorem iv_length (l : List Int) : (iv l).length = l.length := by simp [iv]
theorem iv_take (l : List Int) (k : Nat) : (iv l).take k = iv (l.take k) := by simp [iv]

/-- A tape lies in the block g: some numbers, which lie below B, and some place in them. -/
def Tape (w : World) (B g : Nat) : Prop := ∃ (l : List Int) (k : Nat) (A : Option Addr) (c : Nat), k ≤ l.length ∧ l.length ≤ 400 ∧ l.length ≤ c ∧
  Blk w g 72 [.slice A l.length c, .int .i64 (k : Int)] ∧ Row w A (iv l) ∧ B ≤ g ∧ (0 < l.length → ∀ ad, A = some ad → ad.block < B) ∧ ∀ z ∈ l, -9223372036854775808 ≤ z ∧ z ≤ 9223372036854775807

theorem Tape.lt {w : World} {B g : Nat} (h : Tape w B g) : g < w.heap.size := by
  obtain ⟨l, k, A, c, _, _, _, hb, _⟩ := h
  exact hb.lt
theorem Tape.ge {w : World} {B g : Nat} (h : Tape w B g) : B ≤ g := by
  obtain ⟨l, k, A, c, _, _, _, hb, _, hB, _⟩ := h
  exact hB
theorem blk_grown {w w' : World} {g : Nat} {t : TypeId} {cs : List Value} {row : Option Nat} (h : Blk w g t cs) (hg : w.grownBy w' row) (hne : some g ≠ row) : Blk w' g t cs := (hg.block g h.lt hne).trans h
theorem Tape.below {w w' : World} {B g : Nat} (h : Tape w B g) (hb : Below w.heap.size w w') : Tape w' B g := by
  obtain ⟨l, k, A, c, h1, h2, h3, hk, hr, hn, hz⟩ := h
  exact ⟨l, k, A, c, h1, h2, h3, hk.below hb, hr.below hb, hn, hz⟩
/-- The tape stays where another block, not below B, is written. -/
theorem Tape.grown {w w' : World} {B g : Nat} {row : Option Nat} (h : Tape w B g) (hg : w.grownBy w' row) (hne : some g ≠ row) (hrow : ∀ b, row = some b → B ≤ b) : Tape w' B g := by
  obtain ⟨l, k, A, c, h1, h2, h3, hb, hr, hB, hn, hz⟩ := h
  refine ⟨l, k, A, c, h1, h2, h3, blk_grown hb hg hne, fun j u hu => ?_, hB, hn, hz⟩
  obtain ⟨ad, e, hc⟩ := hr j u hu
  have hl : 0 < l.length := by
    have : j < (iv l).length := (List.getElem?_eq_some_iff.1 hu).1
    simp at this; omega
  refine ⟨ad, e, ?_⟩
  have hlt := cell_lt hc
  rw [← hc]
  exact World.cell?_of_block (hg.block _ hlt (fun he => by have := hrow _ he.symm; have := hn hl ad e; rw [block_of_add] at *; omega))

/-- Only the block g has changed, and what is new. -/
def Only (g : Nat) (w w' : World) : Prop := w.grownBy w' (some g)
theorem Only.refl (g : Nat) (w : World) : Only g w w := World.grownBy.refl w _
theorem Only.trans {g : Nat} {a b c : World} (h : Only g a b) (k : Only g b c) : Only g a c := World.grownBy.trans h k
theorem Only.of_below {g : Nat} {a b : World} (h : Below a.heap.size a b) : Only g a b := ⟨h.os, h.tape, h.output, h.size, fun i hi _ => h.block i hi⟩
theorem Only.drewN {g : Nat} {a b : World} (h : Only g a b) (n : Nat) : Only g a (b.drewN n) := ⟨h.os, h.tape, h.output, h.size, h.block⟩
theorem Only.below {g B : Nat} {a b w : World} (h : Only g a b) (hw : Below B w a) (hB : B ≤ a.heap.size) (hg : B ≤ g) : Below B w b := hw.grown h hB fun k hk => by injection hk with hk; omega

set_option maxHeartbeats 400000 in
theorem tnew_any {A : Option Addr} {n c : Nat} {l : List Int} {w : World} (hr : Row w A (iv l)) (hn : l.length = n) (hc : n ≤ c) (hc2 : c ≤ 9223372036854775807) (hz : ∀ z ∈ l, -9223372036854775808 ≤ z ∧ z ≤ 9223372036854775807) :
    Calls Try.prog 13 #[.slice A n c] w fun e w' => e = .returned (.pointer (some ⟨w.heap.size, 0, none⟩)) ∧ Tape w' w.heap.size w.heap.size ∧ Below w.heap.size w w' := by
  have HA : Hid (0 < n → ∀ ad, A = some ad → ad.block < w.heap.size) := Lib.hid (fun h0 ad e => by
    obtain ⟨ad', e', hlt, _⟩ := hr.cell (k := 0) (by simp; omega)
    rw [e] at e'
    injection e' with e'
    subst e'
    exact hlt)
  have HN := Lib.hid hn
  have HZ := Lib.hid hz
  clear hn hz
  by_cases h4 : 400 < n
  · go_enter Try.func13, Try.ntmps13
    go_wp2_with fail
    go_ret
    have hl : (l.take 400).length = 400 := by have := HN.out; simp; omega
    refine ⟨rfl, ⟨l.take 400, 0, A, c, by omega, by omega, by omega, ?_, ?_, Nat.le_refl _, fun _ => HA.out (by omega), fun z hz => HZ.out z (List.mem_of_mem_take hz)⟩, (Below.refl _ _).alloc (Nat.le_refl _) _⟩
    · rw [hl]; exact Blk.new w _ [.slice A 400 c, .int .i64 0]
    · rw [← iv_take]; exact (hr.take 400).alloc _
  · go_enter Try.func13, Try.ntmps13
    go_wp2_with fail
    go_ret
    have hl := HN.out
    refine ⟨rfl, ⟨l, 0, A, c, by omega, by omega, by omega, ?_, hr.alloc _, Nat.le_refl _, fun h => HA.out (by omega), HZ.out⟩, (Below.refl _ _).alloc (Nat.le_refl _) _⟩
    rw [hl]; exact Blk.new w _ [.slice A n c, .int .i64 0]

theorem iv_cell {w : World} {A : Option Addr} {l : List Int} (h : Row w A (iv l)) (hx : 0 < l.length) :
    ∃ b off, A = some ⟨b, off, none⟩ ∧ b < w.heap.size ∧ ∀ (k : Nat) (hk : k < l.length), w.cell? ⟨b, off + k, none⟩ = some (.int .i64 l[k]) := by
  obtain ⟨b, off, e, hb, hc⟩ := h.place (by simpa using hx)
  exact ⟨b, off, e, hb, fun k hk => hc k _ (by simp [iv, List.getElem?_eq_getElem hk])⟩

theorem tape_step {w : World} {B g : Nat} {l : List Int} {k c : Nat} {A : Option Addr} (hk : k < l.length) (hl : l.length ≤ 400) (hlc : l.length ≤ c)
    (hb : Blk w g 72 [.slice A l.length c, .int .i64 (k : Int)]) (hr : Row w A (iv l)) (hB : B ≤ g) (hA : 0 < l.length → ∀ ad, A = some ad → ad.block < B) (hz : ∀ z ∈ l, -9223372036854775808 ≤ z ∧ z ≤ 9223372036854775807) (m : Nat) :
    Tape ((w.drewN m).setCell ⟨g, 1, none⟩ (.int .i64 ((k : Int) + 1))) B g ∧ Only g w ((w.drewN m).setCell ⟨g, 1, none⟩ (.int .i64 ((k : Int) + 1))) := by
  have ho : Only g w ((w.drewN m).setCell ⟨g, 1, none⟩ (.int .i64 ((k : Int) + 1))) :=
    ⟨rfl, rfl, rfl, by simp [World.drewN], fun i hi hne => Below.heap_setCell (w.drewN m) _ _ i (by rintro rfl; exact hne rfl)⟩
  refine ⟨⟨l, k + 1, A, c, hk, hl, hlc, ?_, fun j u hu => ?_, hB, hA, hz⟩, ho⟩
  · exact (hb.drewN m).set_ 1 (.int .i64 ((k : Int) + 1))
  · obtain ⟨ad, e, hc⟩ := hr j u hu
    refine ⟨ad, e, ?_⟩
    rw [← hc]
    exact World.cell?_of_block (ho.block _ (cell_lt hc) (fun he => by injection he with he; have := hA (by omega) ad e; rw [block_of_add] at he; omega))

set_option maxHeartbeats 1000000 in
theorem tnext_any {w : World} {B g : Nat} (ht : Tape w B g) (n : Int) (h1 : 1 ≤ n) (h2 : n ≤ 4611686018427387904) :
    Calls Try.prog 15 #[.pointer (some ⟨g, 0, none⟩), .int .i64 n] w fun e w' => ∃ v : Int, e = .returned (.int .i64 v) ∧ 0 ≤ v ∧ v < n ∧ Tape w' B g ∧ Only g w w' := by
  obtain ⟨l, k, A, c, hk, hl, hlc, hb, hr, hB, hA, hz⟩ := ht
  have c0 := hb.cell 0
  have c1 := hb.cell 1
  have f1 := hb.frozen 1
  simp only [List.getElem?_cons_zero, List.getElem?_cons_succ] at c0 c1
  by_cases hkl : k < l.length
  · obtain ⟨b, off, rfl, hbl, hcs⟩ := iv_cell hr (by omega)
    have hc := hcs k hkl
    have hbne : b < B := hA (by omega) _ rfl
    have hzk := hz l[k] (List.getElem_mem hkl)
    clear hcs
    generalize l[k] = x at *
    obtain ⟨t1, t2, t3, t4⟩ := tmod_facts x n h1
    have k1 : (0 : Int) ≤ (k : Int) := by omega
    have k2 : (k : Int) < (l.length : Int) := by omega
    have kd : decide (l.length ≤ k) = false := by simp; omega
    have hn0 : (n == 0) = false := by simp; omega
    have HB := Lib.hid hb
    have HR := Lib.hid hr
    have HZ := Lib.hid hz
    have HT := Lib.hid (show _ ∧ _ from ⟨t3, t4⟩)
    have HA := Lib.hid hA
    clear hb hr hz t3 t4 hA
    go_enter Try.func15, Try.ntmps15
    go_wp2_with fail
    go_quiet (fail)
    go_wp2_with fail
    go_quiet (fail)
    go_wp2_with fail
    · go_ret
      have Q := fun m => tape_step hkl hl hlc HB.out HR.out hB HA.out HZ.out m
      exact ⟨x.tmod n + n, rfl, by omega, by omega, (Q _).1, (Q _).2⟩
    · go_ret
      have Q := fun m => tape_step hkl hl hlc HB.out HR.out hB HA.out HZ.out m
      exact ⟨x.tmod n, rfl, by omega, by omega, (Q _).1, (Q _).2⟩
  · have kd : decide (l.length ≤ k) = true := by simp; omega
    have HB := Lib.hid hb
    have HR := Lib.hid hr
    have HZ := Lib.hid hz
    have HA := Lib.hid hA
    clear hb hr hz hA
    go_enter Try.func15, Try.ntmps15
    go_wp2_with fail
    go_quiet (fail)
    go_wp2_with fail
    go_ret
    exact ⟨0, rfl, by omega, by omega, ⟨l, k, A, c, hk, hl, hlc, HB.out.drewN _, HR.out.drewN _, hB, HA.out, HZ.out⟩, (Only.refl _ _).drewN _⟩
end Go.Proofs.Ytolliidpmgncdaa
