/- Arguments of laws that are made of numbers and truth values (by value, and slices of them), as values of AX2. -/
import Derived.Test.YtjknkfjhcapocaaLr
import Derived.Deep.Slices
import Derived.OpenShut
import Derived.DataReads
import Derived.ChangeArms
namespace Go.Proofs.Ytjknkfjhcapocaa
open Go.ChangeShapes Go.WideShapes Go.RowKit AX
set_option linter.unusedVariables false
def KOk : Option IntKind → Value → Prop
  | some k, v => ∃ n, v = .int k n ∧ (Lit.int k n).wf = true
  | none, v => ∃ b, v = .bool b
def Mt : List (Option IntKind) → List Value → Prop
  | [], [] => True
  | k :: ks, v :: vs => KOk k v ∧ Mt ks vs
  | _, _ => False
theorem Mt.append {a b : List (Option IntKind)} {x y : List Value} (h : Mt a x) (h' : Mt b y) : Mt (a ++ b) (x ++ y) := by
  induction a generalizing x with
  | nil =>
    cases x with
    | nil => exact h'
    | cons => exact h.elim
  | cons k ks ih =>
    cases x with
    | nil => exact h.elim
    | cons v vs => exact ⟨h.1, ih h.2⟩
theorem Mt.len {a : List (Option IntKind)} {x : List Value} (h : Mt a x) : x.length = a.length := by
  induction a generalizing x with
  | nil =>
    cases x with
    | nil => rfl
    | cons => exact h.elim
  | cons k ks ih =>
    cases x with
    | nil => exact h.elim
    | cons v vs => simp [ih h.2]
def flatFs (P : Program) (g : TypeId → Option (List (Option IntKind))) : List Field → Nat → Option (List (Option IntKind))
  | [], _ => some []
  | fd :: rest, off =>
    match g fd.type with
    | some l => bif Nat.beq fd.offset off && Nat.beq (P.cellsOf fd.type) l.length then (flatFs P g rest (off + l.length)).map (l ++ ·) else none
    | none => none
def flat (P : Program) : Nat → TypeId → Option (List (Option IntKind))
  | 0, _ => none
  | f + 1, t =>
    match P.underlying t with
    | some .bool => some [none]
    | some (.int k) => some [some k]
    | some (.struct fs) =>
      match flatFs P (flat P f) fs.toList 0 with
      | some l => bif Nat.beq (P.cellsOf t) l.length then some l else none
      | none => none
    | some (.array n e) =>
      match flat P f e with
      | some l => bif Nat.beq (P.cellsOf e) l.length && Nat.beq (P.cellsOf t) (n * l.length) then some (List.replicate n l).flatten else none
      | none => none
    | _ => none
section
variable {H : Type} {enc : TypeId × Value → H} {P : Program} {w : World} {base : Nat} {spare : Nat → Bool} {held : Bool}
theorem flatFs_mt {g : TypeId → Option (List (Option IntKind))} {cs : List Value} : ∀ (fs : List Field) (off : Nat) (ks : List (Option IntKind)), flatFs P g fs off = some ks →
    (∀ fd ∈ fs, ∀ l, g fd.type = some l → Mt l ((cs.drop fd.offset).take (P.cellsOf fd.type))) → cs.length = off + ks.length → Mt ks (cs.drop off) := by
  intro fs
  induction fs with
  | nil =>
    intro off ks h _ hl
    simp only [flatFs, Option.some.injEq] at h
    subst h
    rw [List.drop_eq_nil_of_le (by simp at hl; omega)]
    trivial
  | cons fd rest ih =>
    intro off ks h hm hl
    simp only [flatFs] at h
    split at h
    · rename_i l hg
      cases hb : (Nat.beq fd.offset off && Nat.beq (P.cellsOf fd.type) l.length) with
      | false => rw [hb] at h; cases h
      | true =>
        rw [hb, cond_true] at h
        simp only [Bool.and_eq_true] at hb
        have h1 := Nat.eq_of_beq_eq_true hb.1
        have h2 := Nat.eq_of_beq_eq_true hb.2
        cases hr : flatFs P g rest (off + l.length) with
        | none => rw [hr] at h; cases h
        | some l' =>
          rw [hr] at h
          simp only [Option.map_some, Option.some.injEq] at h
          subst h
          have m1 := hm fd (by simp) l hg
          rw [h1, h2] at m1
          have m2 := ih _ _ hr (fun fd' hfd l hl => hm fd' (by simp [hfd]) l hl) (by simp at hl; omega)
          rw [show cs.drop off = (cs.drop off).take l.length ++ cs.drop (off + l.length) by
            rw [← List.drop_drop, List.take_append_drop]]
          exact m1.append m2
    · cases h
theorem flat_mt : ∀ (f : Nat) (t : TypeId) (ks : List (Option IntKind)) (fuel : Nat) (cs : List Value) (x : DataW H × List MemPlace), flat P f t = some ks → DataW.trod enc P w base spare held fuel t cs = some x → Mt ks cs := by
  intro f
  induction f with
  | zero => intro t ks fuel cs x h; cases h
  | succ f ih =>
    intro t ks fuel cs x h hd
    simp only [flat] at h
    split at h
    · rename_i ht
      simp only [Option.some.injEq] at h
      subst h
      cases fuel with
      | zero => simp [DataW.trod] at hd
      | succ m =>
        unfold DataW.trod at hd
        rw [ht] at hd
        split at hd <;> simp_all
        exact ⟨⟨_, rfl⟩, trivial⟩
    · rename_i k ht
      simp only [Option.some.injEq] at h
      subst h
      obtain ⟨n, rfl, hx, hw⟩ := DataW.trod_int ht hd
      exact ⟨⟨n, rfl, hw⟩, trivial⟩
    · rename_i fs ht
      split at h
      · rename_i l hfl
        cases hb : Nat.beq (P.cellsOf t) l.length with
        | false => rw [hb] at h; cases h
        | true =>
          rw [hb] at h
          simp only [cond_true, Option.some.injEq] at h
          subst h
          obtain ⟨ys, m, _, _, hlen, hyl, hf⟩ := DataW.trod_struct ht hd
          have := flatFs_mt (cs := cs) fs.toList 0 l hfl (fun fd hfd l' hg => ?_) (by rw [hlen, Nat.eq_of_beq_eq_true hb]; omega)
          · simpa using this
          · obtain ⟨i, hi, hfi⟩ := List.getElem_of_mem hfd
            have hi' : i < fs.size := by simpa using hi
            have e1 : fs[i]? = some fd := by
              rw [Array.getElem?_eq_getElem hi']
              simpa using hfi
            have hfd' := hf i fd e1
            have hy : ys[i]? = some ys[i] := List.getElem?_eq_getElem (by omega)
            rw [hy] at hfd'
            exact ih _ _ _ _ _ hg hfd'
      · cases h
    · rename_i n e ht
      split at h
      · rename_i l hfl
        cases hb : (Nat.beq (P.cellsOf e) l.length && Nat.beq (P.cellsOf t) (n * l.length)) with
        | false => rw [hb] at h; cases h
        | true =>
          rw [hb] at h
          simp only [cond_true, Option.some.injEq] at h
          subst h
          simp only [Bool.and_eq_true] at hb
          have h1 := Nat.eq_of_beq_eq_true hb.1
          have h2 := Nat.eq_of_beq_eq_true hb.2
          obtain ⟨xs, m, _, _, hlen, hxl, hel⟩ := DataW.trod_array ht hd
          have key : ∀ j, j ≤ n → Mt (List.replicate j l).flatten (cs.drop ((n - j) * l.length)) := by
            intro j
            induction j with
            | zero =>
              intro _
              rw [List.drop_eq_nil_of_le (by rw [hlen, h2]; simp)]
              trivial
            | succ j ihj =>
              intro hj
              have hi := hel (n - (j + 1)) (by omega)
              rw [h1] at hi
              have hsome : ∃ y, xs[n - (j + 1)]? = some y := ⟨_, List.getElem?_eq_getElem (by omega)⟩
              obtain ⟨y, hy⟩ := hsome
              rw [hy] at hi
              have m1 := ih _ _ _ _ _ hfl hi
              have m2 := ihj (by omega)
              rw [List.replicate_succ, List.flatten_cons]
              rw [show cs.drop ((n - (j + 1)) * l.length) = (cs.drop ((n - (j + 1)) * l.length)).take l.length ++ cs.drop ((n - j) * l.length) by
                rw [show (n - j) * l.length = (n - (j + 1)) * l.length + l.length by rw [show n - j = (n - (j + 1)) + 1 by omega, Nat.add_mul, Nat.one_mul], ← List.drop_drop, List.take_append_drop]]
              exact m1.append m2
          simpa using key n (Nat.le_refl _)
      · cases h
    · cases h
/-- An argument by value of a type that is a struct or an array. -/
theorem open_flat {r : Reach} {b0 f : Nat} {t : TypeId} {v : Value} {d : DataW H} {ps : List MemPlace} {ks : List (Option IntKind)} (hs : (∃ fs, P.underlying t = some (.struct fs)) ∨ ∃ n e, P.underlying t = some (.array n e)) (hf : flat P f t = some ks) (hval : Value.okWide P w r b0 t v) (hd : DataW.Trod enc P w base spare held t v d ps) :
    ∃ cs : Array Value, v = .agg cs ∧ Mt ks cs.toList := by
  have hv : ∃ cs, v = .agg cs := by
    unfold Value.okWide at hval
    rcases hs with ⟨fs, h⟩ | ⟨n, e, h⟩
    · rw [h] at hval; obtain ⟨cs, rfl, _⟩ := hval; exact ⟨cs, rfl⟩
    · rw [h] at hval; obtain ⟨cs, rfl, _⟩ := hval; exact ⟨cs, rfl⟩
  obtain ⟨cs, rfl⟩ := hv
  obtain ⟨fuel, hd⟩ := hd
  exact ⟨cs, rfl, flat_mt f t ks fuel _ _ hf hd⟩
end
/-- The abstract value of a cell. -/
def cvOf : Value → CV
  | .int k n => .int k n
  | .bool b => .bool b
  | _ => .top
def KOkC : Option IntKind → CV → Prop
  | some k, x => ∃ n, x = .int k n ∧ (Lit.int k n).wf = true
  | none, x => ∃ b, x = .bool b
/-- Cells of the kinds ks. -/
def MtC (ks : List (Option IntKind)) (g : Nat → CV) : Prop := ∀ j k, ks[j]? = some k → KOkC k (g j)
theorem KOk.cv {k : Option IntKind} {v : Value} (h : KOk k v) : KOkC k (cvOf v) ∧ ∀ r X W w, (cvOf v).rel r X W w v := by
  cases k with
  | some k => obtain ⟨n, rfl, h⟩ := h; exact ⟨⟨n, rfl, h⟩, fun _ _ _ _ => rfl⟩
  | none => obtain ⟨b, rfl⟩ := h; exact ⟨⟨b, rfl⟩, fun _ _ _ _ => rfl⟩
theorem Mt.at : ∀ {ks : List (Option IntKind)} {vs : List Value}, Mt ks vs → ∀ (j : Nat) k, ks[j]? = some k → ∃ v, vs[j]? = some v ∧ KOk k v := by
  intro ks
  induction ks with
  | nil => intro vs _ j k h; simp at h
  | cons k0 ks ih =>
    intro vs h j k hk
    cases vs with
    | nil => exact h.elim
    | cons v vs =>
      cases j with
      | zero => simp at hk; subst hk; exact ⟨v, rfl, h.1⟩
      | succ j => simpa using ih h.2 j k (by simpa using hk)
def gOf (cs : List Value) (j : Nat) : CV := cvOf (cs.getD j undef)
theorem Mt.g {ks : List (Option IntKind)} {vs : List Value} (h : Mt ks vs) : MtC ks (gOf vs) ∧ ∀ r X W w (j : Nat) u, vs[j]? = some u → (gOf vs j).rel r X W w u := by
  have hlen := h.len
  refine ⟨fun j k hk => ?_, fun r X W w j u hu => ?_⟩
  · obtain ⟨v, hv, hko⟩ := h.at j k hk
    have : gOf vs j = cvOf v := by simp [gOf, List.getD_eq_getElem?_getD, hv]
    rw [this]; exact hko.cv.1
  · have hj : j < ks.length := by rw [← hlen]; exact (List.getElem?_eq_some_iff.1 hu).1
    obtain ⟨v, hv, hko⟩ := h.at j _ (List.getElem?_eq_getElem hj)
    rw [hu] at hv; injection hv with hv; subst hv
    have : gOf vs j = cvOf u := by simp [gOf, List.getD_eq_getElem?_getD, hu]
    rw [this]; exact hko.cv.2 r X W w
/-- A struct or an array by value. -/
theorem flat_rel {ks : List (Option IntKind)} {cs : Array Value} (h : Mt ks cs.toList) {w : World} {α : Type} {E : Elem α} (hsz : E.sz = ks.length) (hok : ∀ g, MtC ks g → E.ok g = true) :
    ∃ a : α, (∃ g, MtC ks g ∧ a = E.rd g) ∧ ((cE E).enc a).rel (fun _ => none) (fun _ => False) (fun _ => False) w (.agg cs) := by
  obtain ⟨h1, h2⟩ := h.g
  have hn : cs.size = E.sz := by rw [hsz]; have := h.len; simpa using this
  refine ⟨E.rd (gOf cs.toList), ⟨_, h1, rfl⟩, cs, rfl, hn, fun i u hu => ?_⟩
  rw [← E.ok_eq _ (hok _ h1) i (by rw [← hn]; exact (Array.getElem?_eq_some_iff.1 hu).1)]
  exact h2 _ _ _ _ i u (by simpa using hu)
section
variable {H : Type} {enc : TypeId × Value → H} {P : Program} {w : World} {base : Nat} {spare : Nat → Bool} {held : Bool}
/-- A slice argument of flat elements: what is known of it. -/
def IsRows (w : World) (ks : List (Option IntKind)) (a : Option Addr) (len cap : Nat) : Prop :=
  len ≤ cap ∧ (0 < len → ∃ ad, a = some ad ∧ ad.spot = none ∧ ∀ i, i < len → ∃ cs : List Value, Mt ks cs ∧ ∀ j u, cs[j]? = some u → w.cell? ⟨ad.block, ad.off + (i * ks.length + j), none⟩ = some u)
theorem add_spot {a : Addr} {n : Nat} (h : a.spot = none) : a.add n = ⟨a.block, a.off + n, none⟩ := addS h n
theorem cells_lt {ad : Addr} {w : World} {u : Value} (h : w.cell? ad = some u) : ad.block < w.heap.size := cell_lt h
theorem open_rows {r : Reach} {b0 f : Nat} {t e : TypeId} {v : Value} {d : DataW H} {ps : List MemPlace} {ks : List (Option IntKind)} (ht : P.underlying t = some (.slice e)) (hf : flat P f e = some ks) (hc : P.cellsOf e = ks.length) (h0 : 0 < ks.length) (hval : Value.okWide P w r b0 t v) (hd : DataW.Trod enc P w base spare held t v d ps) :
    ∃ a len cap, v = .slice a len cap ∧ IsRows w ks a len cap ∧ (d = .nil ∧ cap = 0 ∨ ∃ elems rest, d = .slice elems rest ∧ len ≤ elems.length) := by
  obtain ⟨a, len, cap, rfl⟩ := okWide_slice ht hval
  obtain ⟨fuel, hd⟩ := hd
  rcases Go.Deep.open_slice ht hd with ⟨hcs, hx⟩ | ⟨a', len', cap', m, n, D, Pl, hcs, hb, hl, hm, hmm, hx, hel⟩
  · simp [Value.cells] at hcs
    obtain ⟨rfl, rfl, rfl⟩ := hcs
    injection hx with hx _
    exact ⟨none, 0, 0, rfl, ⟨Nat.le_refl _, fun h => absurd h (Nat.lt_irrefl _)⟩, .inl ⟨hx, rfl⟩⟩
  · simp [Value.cells] at hcs
    obtain ⟨rfl, rfl, rfl⟩ := hcs
    injection hx with hx _
    have hlm : len ≤ m := by rw [hmm]; split <;> omega
    refine ⟨some a', len, cap, rfl, ⟨hl, fun hpos => ?_⟩, .inr ⟨_, _, hx, by simp⟩⟩
    have hsp : a'.spot = none := by
      obtain ⟨cs0, g1, g2⟩ := hel 0 (by omega)
      have hmt := flat_mt f e ks n _ _ hf g2
      obtain ⟨_, g3, g4⟩ := World.cells?_some g1
      have := g4 0 (by rw [hc]; exact h0)
      rw [Nat.zero_mul, add_zero_, add_zero_] at this
      cases hc0 : cs0[0]? with
      | none => rw [List.getElem?_eq_none_iff] at hc0; have := hmt.len; omega
      | some u => rw [hc0] at this; exact spot_none this
    refine ⟨a', rfl, hsp, fun i hi => ?_⟩
    obtain ⟨cs', g1, g2⟩ := hel i (by omega)
    have hmt := flat_mt f e ks n _ _ hf g2
    obtain ⟨_, g3, g4⟩ := World.cells?_some g1
    refine ⟨cs', hmt, fun j u hu => ?_⟩
    have hj : j < cs'.length := (List.getElem?_eq_some_iff.1 hu).1
    have := g4 j (by omega)
    rw [Go.Deep.add_add, addS hsp, hu, hc] at this
    exact this
end
theorem rows_rel {w : World} {ks : List (Option IntKind)} {a : Option Addr} {len cap : Nat} (h : IsRows w ks a len cap) {α : Type} [Inhabited α] {E : Elem α} (h0 : 0 < ks.length) (hsz : E.sz = ks.length) (hok : ∀ g, MtC ks g → E.ok g = true) :
    ∃ l : List α, l.length = len ∧ (∀ c ∈ l, ∃ g, MtC ks g ∧ c = E.rd g) ∧ (FV.e (.c (slR E l))).rel (fun _ => none) (fun _ => False) (fun _ => False) w (.slice a len cap) := by
  obtain ⟨hl, hx⟩ := h
  by_cases hpos : 0 < len
  · obtain ⟨ad, rfl, hsp, hel⟩ := hx hpos
    obtain ⟨F, hF⟩ := Go.Deep.choose_lt (α := List Value) (p := fun i cs => Mt ks cs ∧ ∀ j u, cs[j]? = some u → w.cell? ⟨ad.block, ad.off + (i * ks.length + j), none⟩ = some u) hel
    have hg : ∀ i, i < len → MtC ks (gOf (F i)) := fun i hi => (hF i hi).1.g.1
    have cell : ∀ i, i < len → ∀ j, j < ks.length → ∃ u, (F i)[j]? = some u := fun i hi j hj => ⟨_, List.getElem?_eq_getElem (by rw [(hF i hi).1.len]; exact hj)⟩
    refine ⟨toL E len (fun i => gOf (F i)), toL_len _ _ _, fun c hc => ?_, ?_⟩
    · simp only [toL, List.mem_map, List.mem_range] at hc
      obtain ⟨i, hi, rfl⟩ := hc
      exact ⟨_, hg i hi, rfl⟩
    · unfold slR
      rw [toL_len]
      obtain ⟨u0, hu0⟩ := cell 0 hpos 0 h0
      have hlt := cells_lt ((hF 0 hpos).2 0 u0 hu0)
      refine ⟨some ad, cap, rfl, hl, fun _ => ⟨ad, rfl, hsp, fun h => h, fun _ h => h, hlt, fun i hi j hj => ?_⟩⟩
      rw [hsz] at hj
      obtain ⟨u, hu⟩ := cell i hi j hj
      refine ⟨u, by rw [hsz]; exact (hF i hi).2 j u hu, ?_⟩
      have e1 : rowF E (toL E len fun i => gOf (F i)) i j = gOf (F i) j := by
        unfold rowF
        rw [toL_get hi]
        exact (E.ok_eq _ (hok _ (hg i hi)) j (by rw [hsz]; exact hj)).symm
      rw [e1]
      exact (hF i hi).1.g.2 _ _ _ _ j u hu
  · have : len = 0 := by omega
    subst this
    exact ⟨[], rfl, (fun c h => by cases h), ⟨a, cap, rfl, hl, fun h => absurd h (Nat.lt_irrefl _)⟩⟩
theorem okA_of {k : IntKind} {g : Nat → CV} {o : Nat} : ∀ {n : Nat}, (∀ i, i < n → isK k (g (o + i)) = true) → okA k g o n = true := by
  intro n
  induction n with
  | zero => intro _; rfl
  | succ n ih => intro h; simp only [okA, Bool.and_eq_true]; exact ⟨h n (by omega), ih fun i hi => h i (by omega)⟩
theorem MtC.k {ks : List (Option IntKind)} {g : Nat → CV} (h : MtC ks g) {j : Nat} {k : IntKind} (hj : ks[j]? = some (some k)) : isK k (g j) = true := by
  obtain ⟨n, hn, _⟩ := h j _ hj
  rw [hn]; simp [isK, kindEq]
theorem MtC.b {ks : List (Option IntKind)} {g : Nat → CV} (h : MtC ks g) {j : Nat} (hj : ks[j]? = some none) : isB (g j) = true := by
  obtain ⟨n, hn⟩ := h j _ hj
  rw [hn]; rfl
theorem MtC.wf {ks : List (Option IntKind)} {g : Nat → CV} (h : MtC ks g) {j : Nat} {k : IntKind} (hj : ks[j]? = some (some k)) : (Lit.int k (valI (g j))).wf = true := by
  obtain ⟨n, hn, hw⟩ := h j _ hj
  rw [hn]; exact hw
end Go.Proofs.Ytjknkfjhcapocaa
