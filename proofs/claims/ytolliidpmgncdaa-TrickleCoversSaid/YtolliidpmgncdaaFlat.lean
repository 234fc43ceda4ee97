/- Arguments by value that are made of numbers and truth values: their cells. -/
import Derived.Test.YtolliidpmgncdaaAxRow
import Derived.OpenShut
import Derived.DataReads
import Derived.ChangeArms
namespace Go.Proofs.Ytolliidpmgncdaa
open Go.ChangeShapes Go.WideShapes Go.RowKit AX
set_option linter.unusedVariables false
def KOk : Option IntKind → Value → Prop
  | some k, v => ∃ n, v = .int k n ∧ (Lit.int k n).wf = true
  | none, v => ∃ b, v = .bool b
def Mt : List (Option IntKind) → List Value → Prop
  | [], [] => True
  | k :: ks, v :: vs => KOk k v ∧ Mt ks vs
  | _, _ => False
theorem Mt.append {a b : List (Option IntKind)} {x y : List Value} (h : Mt a x) (h' : Mt b y) : Mt (a ++ b) (x ++ y) := by
  induction a generalizing x with
  | nil =>
    cases x with
    | nil => exact h'
    | cons => exact h.elim
  | cons k ks ih =>
    cases x with
    | nil => exact h.elim
    | cons v vs => exact ⟨h.1, ih h.2⟩
theorem Mt.len {a : List (Option IntKind)} {x : List Value} (h : Mt a x) : x.length = a.length := by
  induction a generalizing x with
  | nil =>
    cases x with
    | nil => rfl
    | cons => exact h.elim
  | cons k ks ih =>
    cases x with
    | nil => exact h.elim
    | cons v vs => simp [ih h.2]
def flatFs (P : Program) (g : TypeId → Option (List (Option IntKind))) : List Field → Nat → Option (List (Option IntKind))
  | [], _ => some []
  | fd :: rest, off =>
    match g fd.type with
    | some l => bif Nat.beq fd.offset off && Nat.beq (P.cellsOf fd.type) l.length then (flatFs P g rest (off + l.length)).map (l ++ ·) else none
    | none => none
def flat (P : Program) : Nat → TypeId → Option (List (Option IntKind))
  | 0, _ => none
  | f + 1, t =>
    match P.underlying t with
    | some .bool => some [none]
    | some (.int k) => some [some k]
    | some (.struct fs) =>
      match flatFs P (flat P f) fs.toList 0 with
      | some l => bif Nat.beq (P.cellsOf t) l.length then some l else none
      | none => none
    | some (.array n e) =>
      match flat P f e with
      | some l => bif Nat.beq (P.cellsOf e) l.length && Nat.beq (P.cellsOf t) (n * l.length) then some (List.replicate n l).flatten else none
      | none => none
    | _ => none
section
variable {H : Type} {enc : TypeId × Value → H} {P : Program} {w : World} {base : Nat} {spare : Nat → Bool} {held : Bool}
theorem flatFs_mt {g : TypeId → Option (List (Option IntKind))} {cs : List Value} : ∀ (fs : List Field) (off : Nat) (ks : List (Option IntKind)), flatFs P g fs off = some ks →
    (∀ fd ∈ fs, ∀ l, g fd.type = some l → Mt l ((cs.drop fd.offset).take (P.cellsOf fd.type))) → cs.length = off + ks.length → Mt ks (cs.drop off) := by
  intro fs
  induction fs with
  | nil =>
    intro off ks h _ hl
    simp only [flatFs, Option.some.injEq] at h
    subst h
    rw [List.drop_eq_nil_of_le (by simp at hl; omega)]
    trivial
  | cons fd rest ih =>
    intro off ks h hm hl
    simp only [flatFs] at h
    split at h
    · rename_i l hg
      cases hb : (Nat.beq fd.offset off && Nat.beq (P.cellsOf fd.type) l.length) with
      | false => rw [hb] at h; cases h
      | true =>
        rw [hb, cond_true] at h
        simp only [Bool.and_eq_true] at hb
        have h1 := Nat.eq_of_beq_eq_true hb.1
        have h2 := Nat.eq_of_beq_eq_true hb.2
        cases hr : flatFs P g rest (off + l.length) with
        | none => rw [hr] at h; cases h
        | some l' =>
          rw [hr] at h
          simp only [Option.map_some, Option.some.injEq] at h
          subst h
          have m1 := hm fd (by simp) l hg
          rw [h1, h2] at m1
          have m2 := ih _ _ hr (fun fd' hfd l hl => hm fd' (by simp [hfd]) l hl) (by simp at hl; omega)
          rw [show cs.drop off = (cs.drop off).take l.length ++ cs.drop (off + l.length) by
            rw [← List.drop_drop, List.take_append_drop]]
          exact m1.append m2
    · cases h
theorem flat_mt : ∀ (f : Nat) (t : TypeId) (ks : List (Option IntKind)) (fuel : Nat) (cs : List Value) (x : DataW H × List MemPlace), flat P f t = some ks → DataW.trod enc P w base spare held fuel t cs = some x → Mt ks cs := by
  intro f
  induction f with
  | zero => intro t ks fuel cs x h; cases h
  | succ f ih =>
    intro t ks fuel cs x h hd
    simp only [flat] at h
    split at h
    · rename_i ht
      simp only [Option.some.injEq] at h
      subst h
      cases fuel with
      | zero => simp [DataW.trod] at hd
      | succ m =>
        unfold DataW.trod at hd
        rw [ht] at hd
        split at hd <;> simp_all
        exact ⟨⟨_, rfl⟩, trivial⟩
    · rename_i k ht
      simp only [Option.some.injEq] at h
      subst h
      obtain ⟨n, rfl, hx, hw⟩ := DataW.trod_int ht hd
      exact ⟨⟨n, rfl, hw⟩, trivial⟩
    · rename_i fs ht
      split at h
      · rename_i l hfl
        cases hb : Nat.beq (P.cellsOf t) l.length with
        | false => rw [hb] at h; cases h
        | true =>
          rw [hb] at h
          simp only [cond_true, Option.some.injEq] at h
          subst h
          obtain ⟨ys, m, _, _, hlen, hyl, hf⟩ := DataW.trod_struct ht hd
          have := flatFs_mt (cs := cs) fs.toList 0 l hfl (fun fd hfd l' hg => ?_) (by rw [hlen, Nat.eq_of_beq_eq_true hb]; omega)
          · simpa using this
          · obtain ⟨i, hi, hfi⟩ := List.getElem_of_mem hfd
            have hi' : i < fs.size := by simpa using hi
            have e1 : fs[i]? = some fd := by
              rw [Array.getElem?_eq_getElem hi']
              simpa using hfi
            have hfd' := hf i fd e1
            have hy : ys[i]? = some ys[i] := List.getElem?_eq_getElem (by omega)
            rw [hy] at hfd'
            exact ih _ _ _ _ _ hg hfd'
      · cases h
    · rename_i n e ht
      split at h
      · rename_i l hfl
        cases hb : (Nat.beq (P.cellsOf e) l.length && Nat.beq (P.cellsOf t) (n * l.length)) with
        | false => rw [hb] at h; cases h
        | true =>
          rw [hb] at h
          simp only [cond_true, Option.some.injEq] at h
          subst h
          simp only [Bool.and_eq_true] at hb
          have h1 := Nat.eq_of_beq_eq_true hb.1
          have h2 := Nat.eq_of_beq_eq_true hb.2
          obtain ⟨xs, m, _, _, hlen, hxl, hel⟩ := DataW.trod_array ht hd
          have key : ∀ j, j ≤ n → Mt (List.replicate j l).flatten (cs.drop ((n - j) * l.length)) := by
            intro j
            induction j with
            | zero =>
              intro _
              rw [List.drop_eq_nil_of_le (by rw [hlen, h2]; simp)]
              trivial
            | succ j ihj =>
              intro hj
              have hi := hel (n - (j + 1)) (by omega)
              rw [h1] at hi
              have hsome : ∃ y, xs[n - (j + 1)]? = some y := ⟨_, List.getElem?_eq_getElem (by omega)⟩
              obtain ⟨y, hy⟩ := hsome
              rw [hy] at hi
              have m1 := ih _ _ _ _ _ hfl hi
              have m2 := ihj (by omega)
              rw [List.replicate_succ, List.flatten_cons]
              rw [show cs.drop ((n - (j + 1)) * l.length) = (cs.drop ((n - (j + 1)) * l.length)).take l.length ++ cs.drop ((n - j) * l.length) by
                rw [show (n - j) * l.length = (n - (j + 1)) * l.length + l.length by rw [show n - j = (n - (j + 1)) + 1 by omega, Nat.add_mul, Nat.one_mul], ← List.drop_drop, List.take_append_drop]]
              exact m1.append m2
          simpa using key n (Nat.le_refl _)
      · cases h
    · cases h
/-- An argument by value of a type that is a struct or an array. -/
theorem open_flat {r : Reach} {b0 f : Nat} {t : TypeId} {v : Value} {d : DataW H} {ps : List MemPlace} {ks : List (Option IntKind)} (hs : (∃ fs, P.underlying t = some (.struct fs)) ∨ ∃ n e, P.underlying t = some (.array n e)) (hf : flat P f t = some ks) (hval : Value.okWide P w r b0 t v) (hd : DataW.Trod enc P w base spare held t v d ps) :
    ∃ cs : Array Value, v = .agg cs ∧ Mt ks cs.toList := by
  have hv : ∃ cs, v = .agg cs := by
    unfold Value.okWide at hval
    rcases hs with ⟨fs, h⟩ | ⟨n, e, h⟩
    · rw [h] at hval; obtain ⟨cs, rfl, _⟩ := hval; exact ⟨cs, rfl⟩
    · rw [h] at hval; obtain ⟨cs, rfl, _⟩ := hval; exact ⟨cs, rfl⟩
  obtain ⟨cs, rfl⟩ := hv
  obtain ⟨fuel, hd⟩ := hd
  exact ⟨cs, rfl, flat_mt f t ks fuel _ _ hf hd⟩
end
/-- The abstract value of a cell. -/
def cvOf : Value → CV
  | .int k n => .int k n
  | .bool b => .bool b
  | _ => .top
theorem agg_rel {r : Nat → Option Nat} {O : Nat → Prop} {w : World} {n : Nat} {f : Nat → CV} {cs : Array Value} (hn : cs.size = n) (h : ∀ i u, cs[i]? = some u → (f i).rel r O w u) : (FV.e (.agg n f)).rel r O w (.agg cs) := ⟨cs, rfl, hn, h⟩
end Go.Proofs.Ytolliidpmgncdaa
