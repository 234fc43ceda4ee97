/- Structs and arrays that are compared cell by cell. -/
import Derived.Test.YtjknkfjhcapocaaBSound
import Derived.Laws.StructEq
import Derived.ChangeKeysEq
namespace Go.Proofs.Ytjknkfjhcapocaa.AX
open Go.RowKit
set_option linter.unusedVariables false
set_option linter.unusedSimpArgs false

theorem blt_pos' {n : Nat} (h : Nat.blt 0 n = true) : n ≠ 0 := by have := Nat.le_of_ble_eq_true h; omega
theorem okFrom_add (f g : Nat → CV) : ∀ (a b : List Bool) (off : Nat), okFrom f g (a ++ b) off = (okFrom f g a off && okFrom f g b (off + a.length)) := by
  intro a
  induction a with
  | nil => intro b off; simp [okFrom]
  | cons x a ih => intro b off; rw [List.cons_append, okFrom, okFrom, ih, List.length_cons, show off + 1 + a.length = off + (a.length + 1) by omega, Bool.and_assoc]
theorem eqFrom_add (f g : Nat → CV) : ∀ (a b off : Nat), eqFrom f g (a + b) off = (eqFrom f g a off && eqFrom f g b (off + a)) := by
  intro a
  induction a with
  | zero => intro b off; simp [eqFrom]
  | succ a ih => intro b off; rw [show a + 1 + b = (a + b) + 1 by omega, eqFrom, eqFrom, ih, show off + 1 + a = off + (a + 1) by omega, Bool.and_assoc]

theorem underOf {P : Program} {t : TypeId} {l : List Bool} : ∀ {m : Nat}, eqT P m t = some l → ∃ d, P.underlying t = some d := by
  intro m h
  cases m with
  | zero => cases h
  | succ m =>
    unfold eqT at h
    cases hu : P.underlying t with
    | none => rw [hu] at h; cases h
    | some d => exact ⟨d, rfl⟩
theorem infoOf {P : Program} {t : TypeId} {d : TypeDesc} (h : P.underlying t = some d) : ∃ i, P.info? t = some i := by
  cases hi : P.info? t with
  | some i => exact ⟨i, rfl⟩
  | none => simp [Program.underlying, hi] at h
theorem run_isAgg {P : Program} {t : TypeId} {d : TypeDesc} (h : P.underlying t = some d) (w : World) : (isAgg t).run P w = .ok (isAggD d) w := by
  simp only [isAgg, Sem.run_bind, run_underlying h, Result.andThen_ok]
  cases d <;> rfl

/-- What a part of type t is, and how it is compared. -/
def PartEq (P : Program) (d : Nat) (t : TypeId) (l : List Bool) : Prop :=
  ∀ (w : World) (r : Ren) (X W : Nat → Prop) (xs ys : Array Value) (f g : Nat → CV) (off : Nat), off + l.length ≤ xs.size → off + l.length ≤ ys.size → (∀ i u, xs[i]? = some u → (f i).rel r X W w u) → (∀ i u, ys[i]? = some u → (g i).rel r X W w u) → okFrom f g l off = true →
    ∃ a b, (part t xs off).run P w = .ok a w ∧ (part t ys off).run P w = .ok b w ∧ (Op.equalIn d t a b).run P w = .ok (eqFrom f g l.length off) w

theorem run_part_cell {P : Program} {t : TypeId} {d : TypeDesc} (h : P.underlying t = some d) (ha : isAggD d = false) {w : World} {xs : Array Value} {off : Nat} {u : Value} (hu : xs[off]? = some u) : (part t xs off).run P w = .ok u w := by
  simp only [part, Sem.run_bind, run_isAgg h, ha, Result.andThen_ok, hu, Sem.run_pure, Bool.false_eq_true, if_false]
theorem run_part_agg {P : Program} {t : TypeId} {d : TypeDesc} {s : Nat} (h : P.underlying t = some d) (ha : isAggD d = true) (hs : szN P t = s) {w : World} {xs : Array Value} {off : Nat} : (part t xs off).run P w = .ok (.agg (xs.extract off (off + s))) w := by
  obtain ⟨i, hi⟩ := infoOf h
  have : i.size = s := by rw [← hs]; simp [szN, hi]
  simp only [part, Sem.run_bind, run_isAgg h, ha, Result.andThen_ok, if_true, sizeOf, typeInfo, run_program, hi, Sem.run_pure, this]

theorem eqFields_ok {P : Program} {d : Nat} {E : TypeId → Option (List Bool)} (hE : ∀ t l, E t = some l → szN P t = l.length → PartEq P d t l) (w : World) (r : Ren) (X W : Nat → Prop) (xs ys : Array Value) (f g : Nat → CV)
    (hx : ∀ i u, xs[i]? = some u → (f i).rel r X W w u) (hy : ∀ i u, ys[i]? = some u → (g i).rel r X W w u) : ∀ (fs : List Field) (off : Nat) (l : List Bool), eqFs E P fs off = some l → off + l.length ≤ xs.size → off + l.length ≤ ys.size → okFrom f g l off = true →
    (Op.eqFields d xs ys fs).run P w = .ok (eqFrom f g l.length off) w := by
  intro fs
  induction fs with
  | nil =>
    intro off l h _ _ _
    injection h with h
    subst h
    rfl
  | cons fd fs ih =>
    intro off l h h1 h2 ho
    unfold eqFs at h
    cases hb : (fd.name != "_" && Nat.beq fd.offset off) with
    | false => rw [hb] at h; cases h
    | true =>
      rw [hb, cond_true] at h
      simp only [Bool.and_eq_true, bne_iff_ne] at hb
      have e1 := Nat.eq_of_beq_eq_true hb.2
      split at h
      · rename_i l1 hl1
        cases hb2 : (Nat.beq (szN P fd.type) l1.length && Nat.blt 0 l1.length) with
        | false => rw [hb2] at h; cases h
        | true =>
          rw [hb2, cond_true] at h
          simp only [Bool.and_eq_true] at hb2
          have e2 := Nat.eq_of_beq_eq_true hb2.1
          split at h
          · rename_i l2 hl2
            injection h with h
            subst h
            rw [okFrom_add, Bool.and_eq_true] at ho
            rw [List.length_append] at h1 h2 ⊢
            obtain ⟨a, b, p1, p2, p3⟩ := hE fd.type l1 hl1 e2 w r X W xs ys f g off (by omega) (by omega) hx hy ho.1
            have := ih (off + l1.length) l2 hl2 (by omega) (by omega) ho.2
            rw [eqFrom_add]
            simp only [Op.eqFields, hb.1, ne_eq, not_false_eq_true, if_true, Sem.run_bind, e1, p1, p2, p3, Result.andThen_ok]
            cases eqFrom f g l1.length off with
            | false => simp
            | true => simpa using this
          · cases h
      · cases h

theorem eqItems_ok {P : Program} {d : Nat} {e : TypeId} {l : List Bool} (hE : PartEq P d e l) (w : World) (r : Ren) (X W : Nat → Prop) (xs ys : Array Value) (f g : Nat → CV)
    (hx : ∀ i u, xs[i]? = some u → (f i).rel r X W w u) (hy : ∀ i u, ys[i]? = some u → (g i).rel r X W w u) : ∀ (n k : Nat), (k + n) * l.length ≤ xs.size → (k + n) * l.length ≤ ys.size → okFrom f g (List.replicate n l).flatten (k * l.length) = true →
    (Op.eqItems d e l.length xs ys (List.range' k n)).run P w = .ok (eqFrom f g (n * l.length) (k * l.length)) w := by
  intro n
  induction n with
  | zero => intro k _ _ _; simp [Op.eqItems, eqFrom]
  | succ n ih =>
    intro k h1 h2 ho
    have hk : k * l.length + l.length ≤ (k + (n + 1)) * l.length := by
      rw [show k * l.length + l.length = (k + 1) * l.length by rw [Nat.add_mul, Nat.one_mul]]
      exact Nat.mul_le_mul_right _ (by omega)
    rw [List.replicate_succ, List.flatten_cons, okFrom_add, Bool.and_eq_true] at ho
    obtain ⟨a, b, p1, p2, p3⟩ := hE w r X W xs ys f g (k * l.length) (by omega) (by omega) hx hy ho.1
    have ho2 := ho.2
    rw [show k * l.length + l.length = (k + 1) * l.length by rw [Nat.add_mul, Nat.one_mul]] at ho2
    have := ih (k + 1) (by rw [show k + 1 + n = k + (n + 1) by omega]; exact h1) (by rw [show k + 1 + n = k + (n + 1) by omega]; exact h2) ho2
    rw [show (n + 1) * l.length = l.length + n * l.length by rw [Nat.add_mul, Nat.one_mul, Nat.add_comm], eqFrom_add, show k * l.length + l.length = (k + 1) * l.length by rw [Nat.add_mul, Nat.one_mul]]
    simp only [List.range'_succ, Op.eqItems, Sem.run_bind, p1, p2, p3, Result.andThen_ok]
    cases eqFrom f g l.length (k * l.length) with
    | false => simp
    | true => simpa using this

theorem okCell_int {x y : CV} (h : okCell false x y = true) : ∃ k a b, x = .int k a ∧ y = .int k b := by
  cases x <;> cases y <;> simp [okCell, kindEq] at h
  subst h
  exact ⟨_, _, _, rfl, rfl⟩
theorem okCell_bool {x y : CV} (h : okCell true x y = true) : ∃ a b, x = .bool a ∧ y = .bool b := by
  cases x <;> cases y <;> simp [okCell] at h
  exact ⟨_, _, rfl, rfl⟩
theorem ex_rel {xs : Array Value} {w : World} {r : Ren} {X W : Nat → Prop} {f : Nat → CV} (hx : ∀ i u, xs[i]? = some u → (f i).rel r X W w u) {off s : Nat} (h : off + s ≤ xs.size) :
    (xs.extract off (off + s)).size = s ∧ ∀ i u, (xs.extract off (off + s))[i]? = some u → (f (off + i)).rel r X W w u := by
  refine ⟨by simp; omega, fun i u hu => ?_⟩
  rw [Array.getElem?_extract] at hu
  split at hu
  · exact hx _ _ hu
  · cases hu
theorem okFrom_shift (f g : Nat → CV) (k : Nat) : ∀ (l : List Bool) (off : Nat), okFrom (fun i => f (k + i)) (fun i => g (k + i)) l off = okFrom f g l (k + off) := by
  intro l
  induction l with
  | nil => intro off; rfl
  | cons b l ih => intro off; rw [okFrom, okFrom, ih, Nat.add_assoc]
theorem eqFrom_shift (f g : Nat → CV) (k : Nat) : ∀ (n off : Nat), eqFrom (fun i => f (k + i)) (fun i => g (k + i)) n off = eqFrom f g n (k + off) := by
  intro n
  induction n with
  | zero => intro off; rfl
  | succ n ih => intro off; rw [eqFrom, eqFrom, ih, Nat.add_assoc]

/-- Aggregates. -/
def AggEq (P : Program) (d : Nat) (t : TypeId) (l : List Bool) : Prop :=
  ∀ (w : World) (r : Ren) (X W : Nat → Prop) (xs ys : Array Value) (f g : Nat → CV), xs.size = l.length → ys.size = l.length → (∀ i u, xs[i]? = some u → (f i).rel r X W w u) → (∀ i u, ys[i]? = some u → (g i).rel r X W w u) → okFrom f g l 0 = true →
    (Op.equalIn d t (.agg xs) (.agg ys)).run P w = .ok (eqFrom f g l.length 0) w
theorem part_of_agg {P : Program} {d : Nat} {t : TypeId} {l : List Bool} {td : TypeDesc} (h : P.underlying t = some td) (ha : isAggD td = true) (hs : szN P t = l.length) (hA : AggEq P d t l) : PartEq P d t l := by
  intro w r X W xs ys f g off h1 h2 hx hy ho
  obtain ⟨a1, a2⟩ := ex_rel hx h1
  obtain ⟨b1, b2⟩ := ex_rel hy h2
  refine ⟨_, _, run_part_agg h ha hs, run_part_agg h ha hs, ?_⟩
  have := hA w r X W _ _ (fun i => f (off + i)) (fun i => g (off + i)) a1 b1 a2 b2 (by rw [okFrom_shift, Nat.add_zero]; exact ho)
  rw [eqFrom_shift, Nat.add_zero] at this
  exact this

theorem eq_all {P : Program} (d : Nat) : ∀ (m : Nat) (t : TypeId) (l : List Bool), eqT P m t = some l → (szN P t = l.length → PartEq P (d + m) t l) ∧ ((P.underlying t).map isAggD = some true → AggEq P (d + m) t l) := by
  intro m
  induction m with
  | zero => intro t l h; cases h
  | succ m ih =>
    intro t l h
    unfold eqT at h
    split at h
    · rename_i hu
      injection h with h
      subst h
      refine ⟨fun _ w r X W xs ys f g off h1 h2 hx hy ho => ?_, fun ha => by rw [hu] at ha; cases ha⟩
      simp only [List.length_cons, List.length_nil] at h1 h2
      have c1 : xs[off]? = some (xs[off]'(by omega)) := Array.getElem?_eq_getElem (by omega)
      have c2 : ys[off]? = some (ys[off]'(by omega)) := Array.getElem?_eq_getElem (by omega)
      simp only [okFrom, Bool.and_true] at ho
      obtain ⟨a, b, ea, eb⟩ := okCell_bool ho
      have r1 := hx _ _ c1
      have r2 := hy _ _ c2
      rw [ea] at r1
      rw [eb] at r2
      have r1' : xs[off]'(by omega) = .bool a := r1
      have r2' : ys[off]'(by omega) = .bool b := r2
      refine ⟨_, _, run_part_cell hu rfl c1, run_part_cell hu rfl c2, ?_⟩
      rw [r1', r2', show d + (m + 1) = (d + m) + 1 from rfl, run_equalIn_bool w (d + m) t a b hu]
      simp [eqFrom, ea, eb, eqCell]
    · rename_i q hu
      injection h with h
      subst h
      refine ⟨fun _ w r X W xs ys f g off h1 h2 hx hy ho => ?_, fun ha => by rw [hu] at ha; cases ha⟩
      simp only [List.length_cons, List.length_nil] at h1 h2
      have c1 : xs[off]? = some (xs[off]'(by omega)) := Array.getElem?_eq_getElem (by omega)
      have c2 : ys[off]? = some (ys[off]'(by omega)) := Array.getElem?_eq_getElem (by omega)
      simp only [okFrom, Bool.and_true] at ho
      obtain ⟨k, a, b, ea, eb⟩ := okCell_int ho
      have r1 := hx _ _ c1
      have r2 := hy _ _ c2
      rw [ea] at r1
      rw [eb] at r2
      have r1' : xs[off]'(by omega) = .int k a := r1
      have r2' : ys[off]'(by omega) = .int k b := r2
      refine ⟨_, _, run_part_cell hu rfl c1, run_part_cell hu rfl c2, ?_⟩
      rw [r1', r2', show d + (m + 1) = (d + m) + 1 from rfl, run_equalIn_int w (d + m) t k q a b hu]
      simp [eqFrom, ea, eb, eqCell]
    · rename_i n e hu
      split at h
      · rename_i l1 hl1
        cases hb : (Nat.beq (szN P e) l1.length && Nat.blt 0 l1.length) with
        | false => rw [hb] at h; cases h
        | true =>
          rw [hb, cond_true] at h
          injection h with h
          simp only [Bool.and_eq_true] at hb
          have e1 := Nat.eq_of_beq_eq_true hb.1
          obtain ⟨de, hde⟩ := underOf hl1
          obtain ⟨i, hi⟩ := infoOf hde
          have hce : P.cellsOf e = l1.length := by rw [← e1]; simp [szN, Program.cellsOf, hi]
          have hll : l.length = n * l1.length := by rw [← h]; simp
          have hA : AggEq P (d + (m + 1)) t l := by
            intro w r X W xs ys f g h1 h2 hx hy ho
            rw [show d + (m + 1) = (d + m) + 1 from rfl, run_equalIn_array w (d + m) xs ys hu hi, hce, List.range_eq_range']
            have := eqItems_ok ((ih e l1 hl1).1 e1) w r X W xs ys f g hx hy n 0 (by rw [Nat.zero_add]; omega) (by rw [Nat.zero_add]; omega) (by rw [Nat.zero_mul, h]; exact ho)
            rw [Nat.zero_mul] at this
            rw [hll]
            exact this
          exact ⟨fun hs => part_of_agg hu rfl hs hA, fun _ => hA⟩
      · cases h
    · rename_i fs hu
      cases hst : P.stoodInHeld t with
      | true => rw [hst] at h; cases h
      | false =>
        rw [hst, cond_false] at h
        have hfs : P.fieldsOf t = fs := by simp [Program.fieldsOf, hu]
        have hA : AggEq P (d + (m + 1)) t l := by
          intro w r X W xs ys f g h1 h2 hx hy ho
          rw [show d + (m + 1) = (d + m) + 1 from rfl, run_equalIn_struct w (d + m) t xs ys (by rw [hfs]; exact hu) hst, hfs]
          exact eqFields_ok (fun t' l' ht' hs' => (ih t' l' ht').1 hs') w r X W xs ys f g hx hy fs.toList 0 l h (by omega) (by omega) ho
        exact ⟨fun hs => part_of_agg hu rfl hs hA, fun _ => hA⟩
    · cases h

theorem equal_agg {P : Program} {t : TypeId} {l : List Bool} (w : World) (h : eqT P 6 t = some l) (ha : (P.underlying t).map isAggD = some true) {r : Ren} {X W : Nat → Prop} {xs ys : Array Value} {f g : Nat → CV} (h1 : xs.size = l.length) (h2 : ys.size = l.length)
    (hx : ∀ i u, xs[i]? = some u → (f i).rel r X W w u) (hy : ∀ i u, ys[i]? = some u → (g i).rel r X W w u) (ho : okFrom f g l 0 = true) : (Op.equalIn 10000 t (.agg xs) (.agg ys)).run P w = .ok (eqFrom f g l.length 0) w :=
  (eq_all 9994 6 t l h).2 ha w r X W xs ys f g h1 h2 hx hy ho
end Go.Proofs.Ytjknkfjhcapocaa.AX
