/- Texts of one's own in one file: Fl, Cmp, Ct, Ct2, Ct3, Rf, Mb, Mb2, Mb3, Rf2, Tp2, MbW, MbK, Mp, Rm, Rm2, Mf, MfW, MfR, MbL, MbC, MbS, MobilityReadsA, MobilityReadsW. -/
import Derived.Test.YteacebocjafinaaJMobilityReadsb
import Derived.Deep.Slices
import Derived.OpenShut
import Derived.DataReads
import Derived.ChangeArms
import Derived.Lib.BytesEntry
import Derived.Laws.Externs
import Derived.WalkKit
import Derived.Laws.Cover3
/- Arguments of laws that are made of numbers and truth values (by value, and slices of them), as values of AX2. -/
namespace Go.Proofs.Yteacebocjafinaa
open Go.ChangeShapes Go.WideShapes Go.RowKit AX
set_option linter.unusedVariables false
def KOk : Option IntKind → Value → Prop
  | some k, v => ∃ n, v = .int k n ∧ (Lit.int k n).wf = true
  | none, v => ∃ b, v = .bool b
def Mt : List (Option IntKind) → List Value → Prop
  | [], [] => True
  | k :: ks, v :: vs => KOk k v ∧ Mt ks vs
  | _, _ => False
theorem Mt.append {a b : List (Option IntKind)} {x y : List Value} (h : Mt a x) (h' : Mt b y) : Mt (a ++ b) (x ++ y) := by
  induction a generalizing x with
  | nil =>
    cases x with
    | nil => exact h'
    | cons => exact h.elim
  | cons k ks ih =>
    cases x with
    | nil => exact h.elim
    | cons v vs => exact ⟨h.1, ih h.2⟩
theorem Mt.len {a : List (Option IntKind)} {x : List Value} (h : Mt a x) : x.length = a.length := by
  induction a generalizing x with
  | nil =>
    cases x with
    | nil => rfl
    | cons => exact h.elim
  | cons k ks ih =>
    cases x with
    | nil => exact h.elim
    | cons v vs => simp [ih h.2]
def flatFs (P : Program) (g : TypeId → Option (List (Option IntKind))) : List Field → Nat → Option (List (Option IntKind))
  | [], _ => some []
  | fd :: rest, off =>
    match g fd.type with
    | some l => bif Nat.beq fd.offset off && Nat.beq (P.cellsOf fd.type) l.length then (flatFs P g rest (off + l.length)).map (l ++ ·) else none
    | none => none
def flat (P : Program) : Nat → TypeId → Option (List (Option IntKind))
  | 0, _ => none
  | f + 1, t =>
    match P.underlying t with
    | some .bool => some [none]
    | some (.int k) => some [some k]
    | some (.struct fs) =>
      match flatFs P (flat P f) fs.toList 0 with
      | some l => bif Nat.beq (P.cellsOf t) l.length then some l else none
      | none => none
    | some (.array n e) =>
      match flat P f e with
      | some l => bif Nat.beq (P.cellsOf e) l.length && Nat.beq (P.cellsOf t) (n * l.length) then some (List.replicate n l).flatten else none
      | none => none
    | _ => none
section
variable {H : Type} {enc : TypeId × Value → H} {P : Program} {w : World} {base : Nat} {spare : Nat → Bool} {held : Bool}
theorem flatFs_mt {g : TypeId → Option (List (Option IntKind))} {cs : List Value} : ∀ (fs : List Field) (off : Nat) (ks : List (Option IntKind)), flatFs P g fs off = some ks →
    (∀ fd ∈ fs, ∀ l, g fd.type = some l → Mt l ((cs.drop fd.offset).take (P.cellsOf fd.type))) → cs.length = off + ks.length → Mt ks (cs.drop off) := by
  intro fs
  induction fs with
  | nil =>
    intro off ks h _ hl
    simp only [flatFs, Option.some.injEq] at h
    subst h
    rw [List.drop_eq_nil_of_le (by simp at hl; omega)]
    trivial
  | cons fd rest ih =>
    intro off ks h hm hl
    simp only [flatFs] at h
    split at h
    · rename_i l hg
      cases hb : (Nat.beq fd.offset off && Nat.beq (P.cellsOf fd.type) l.length) with
      | false => rw [hb] at h; cases h
      | true =>
        rw [hb, cond_true] at h
        simp only [Bool.and_eq_true] at hb
        have h1 := Nat.eq_of_beq_eq_true hb.1
        have h2 := Nat.eq_of_beq_eq_true hb.2
        cases hr : flatFs P g rest (off + l.length) with
        | none => rw [hr] at h; cases h
        | some l' =>
          rw [hr] at h
          simp only [Option.map_some, Option.some.injEq] at h
          subst h
          have m1 := hm fd (by simp) l hg
          rw [h1, h2] at m1
          have m2 := ih _ _ hr (fun fd' hfd l hl => hm fd' (by simp [hfd]) l hl) (by simp at hl; omega)
          rw [show cs.drop off = (cs.drop off).take l.length ++ cs.drop (off + l.length) by
            rw [← List.drop_drop, List.take_append_drop]]
          exact m1.append m2
    · cases h
theorem flat_mt : ∀ (f : Nat) (t : TypeId) (ks : List (Option IntKind)) (fuel : Nat) (cs : List Value) (x : DataW H × List MemPlace), flat P f t = some ks → DataW.trod enc P w base spare held fuel t cs = some x → Mt ks cs := by
  intro f
  induction f with
  | zero => intro t ks fuel cs x h; cases h
  | succ f ih =>
    intro t ks fuel cs x h hd
    simp only [flat] at h
    split at h
    · rename_i ht
      simp only [Option.some.injEq] at h
      subst h
      cases fuel with
      | zero => simp [DataW.trod] at hd
      | succ m =>
        unfold DataW.trod at hd
        rw [ht] at hd
        split at hd <;> simp_all
        exact ⟨⟨_, rfl⟩, trivial⟩
    · rename_i k ht
      simp only [Option.some.injEq] at h
      subst h
      obtain ⟨n, rfl, hx, hw⟩ := DataW.trod_int ht hd
      exact ⟨⟨n, rfl, hw⟩, trivial⟩
    · rename_i fs ht
      split at h
      · rename_i l hfl
        cases hb : Nat.beq (P.cellsOf t) l.length with
        | false => rw [hb] at h; cases h
        | true =>
          rw [hb] at h
          simp only [cond_true, Option.some.injEq] at h
          subst h
          obtain ⟨ys, m, _, _, hlen, hyl, hf⟩ := DataW.trod_struct ht hd
          have := flatFs_mt (cs := cs) fs.toList 0 l hfl (fun fd hfd l' hg => ?_) (by rw [hlen, Nat.eq_of_beq_eq_true hb]; omega)
          · simpa using this
          · obtain ⟨i, hi, hfi⟩ := List.getElem_of_mem hfd
            have hi' : i < fs.size := by simpa using hi
            have e1 : fs[i]? = some fd := by
              rw [Array.getElem?_eq_getElem hi']
              simpa using hfi
            have hfd' := hf i fd e1
            have hy : ys[i]? = some ys[i] := List.getElem?_eq_getElem (by omega)
            rw [hy] at hfd'
            exact ih _ _ _ _ _ hg hfd'
      · cases h
    · rename_i n e ht
      split at h
      · rename_i l hfl
        cases hb : (Nat.beq (P.cellsOf e) l.length && Nat.beq (P.cellsOf t) (n * l.length)) with
        | false => rw [hb] at h; cases h
        | true =>
          rw [hb] at h
          simp only [cond_true, Option.some.injEq] at h
          subst h
          simp only [Bool.and_eq_true] at hb
          have h1 := Nat.eq_of_beq_eq_true hb.1
          have h2 := Nat.eq_of_beq_eq_true hb.2
          obtain ⟨xs, m, _, _, hlen, hxl, hel⟩ := DataW.trod_array ht hd
          have key : ∀ j, j ≤ n → Mt (List.replicate j l).flatten (cs.drop ((n - j) * l.length)) := by
            intro j
            induction j with
            | zero =>
              intro _
              rw [List.drop_eq_nil_of_le (by rw [hlen, h2]; simp)]
              trivial
            | succ j ihj =>
              intro hj
              have hi := hel (n - (j + 1)) (by omega)
              rw [h1] at hi
              have hsome : ∃ y, xs[n - (j + 1)]? = some y := ⟨_, List.getElem?_eq_getElem (by omega)⟩
              obtain ⟨y, hy⟩ := hsome
              rw [hy] at hi
              have m1 := ih _ _ _ _ _ hfl hi
              have m2 := ihj (by omega)
              rw [List.replicate_succ, List.flatten_cons]
              rw [show cs.drop ((n - (j + 1)) * l.length) = (cs.drop ((n - (j + 1)) * l.length)).take l.length ++ cs.drop ((n - j) * l.length) by
                rw [show (n - j) * l.length = (n - (j + 1)) * l.length + l.length by rw [show n - j = (n - (j + 1)) + 1 by omega, Nat.add_mul, Nat.one_mul], ← List.drop_drop, List.take_append_drop]]
              exact m1.append m2
          simpa using key n (Nat.le_refl _)
      · cases h
    · cases h
/-- An argument by value of a type that is a struct or an array. -/
theorem open_flat {r : Reach} {b0 f : Nat} {t : TypeId} {v : Value} {d : DataW H} {ps : List MemPlace} {ks : List (Option IntKind)} (hs : (∃ fs, P.underlying t = some (.struct fs)) ∨ ∃ n e, P.underlying t = some (.array n e)) (hf : flat P f t = some ks) (hval : Value.okWide P w r b0 t v) (hd : DataW.Trod enc P w base spare held t v d ps) :
    ∃ cs : Array Value, v = .agg cs ∧ Mt ks cs.toList := by
  have hv : ∃ cs, v = .agg cs := by
    unfold Value.okWide at hval
    rcases hs with ⟨fs, h⟩ | ⟨n, e, h⟩
    · rw [h] at hval; obtain ⟨cs, rfl, _⟩ := hval; exact ⟨cs, rfl⟩
    · rw [h] at hval; obtain ⟨cs, rfl, _⟩ := hval; exact ⟨cs, rfl⟩
  obtain ⟨cs, rfl⟩ := hv
  obtain ⟨fuel, hd⟩ := hd
  exact ⟨cs, rfl, flat_mt f t ks fuel _ _ hf hd⟩
end
/-- The abstract value of a cell. -/
def cvOf : Value → CV
  | .int k n => .int k n
  | .bool b => .bool b
  | _ => .top
def KOkC : Option IntKind → CV → Prop
  | some k, x => ∃ n, x = .int k n ∧ (Lit.int k n).wf = true
  | none, x => ∃ b, x = .bool b
/-- Cells of the kinds ks. -/
def MtC (ks : List (Option IntKind)) (g : Nat → CV) : Prop := ∀ j k, ks[j]? = some k → KOkC k (g j)
theorem KOk.cv {k : Option IntKind} {v : Value} (h : KOk k v) : KOkC k (cvOf v) ∧ ∀ r X W w, (cvOf v).rel r X W w v := by
  cases k with
  | some k => obtain ⟨n, rfl, h⟩ := h; exact ⟨⟨n, rfl, h⟩, fun _ _ _ _ => rfl⟩
  | none => obtain ⟨b, rfl⟩ := h; exact ⟨⟨b, rfl⟩, fun _ _ _ _ => rfl⟩
theorem Mt.at : ∀ {ks : List (Option IntKind)} {vs : List Value}, Mt ks vs → ∀ (j : Nat) k, ks[j]? = some k → ∃ v, vs[j]? = some v ∧ KOk k v := by
  intro ks
  induction ks with
  | nil => intro vs _ j k h; simp at h
  | cons k0 ks ih =>
    intro vs h j k hk
    cases vs with
    | nil => exact h.elim
    | cons v vs =>
      cases j with
      | zero => simp at hk; subst hk; exact ⟨v, rfl, h.1⟩
      | succ j => simpa using ih h.2 j k (by simpa using hk)
def gOf (cs : List Value) (j : Nat) : CV := cvOf (cs.getD j undef)
theorem Mt.g {ks : List (Option IntKind)} {vs : List Value} (h : Mt ks vs) : MtC ks (gOf vs) ∧ ∀ r X W w (j : Nat) u, vs[j]? = some u → (gOf vs j).rel r X W w u := by
  have hlen := h.len
  refine ⟨fun j k hk => ?_, fun r X W w j u hu => ?_⟩
  · obtain ⟨v, hv, hko⟩ := h.at j k hk
    have : gOf vs j = cvOf v := by simp [gOf, List.getD_eq_getElem?_getD, hv]
    rw [this]; exact hko.cv.1
  · have hj : j < ks.length := by rw [← hlen]; exact (List.getElem?_eq_some_iff.1 hu).1
    obtain ⟨v, hv, hko⟩ := h.at j _ (List.getElem?_eq_getElem hj)
    rw [hu] at hv; injection hv with hv; subst hv
    have : gOf vs j = cvOf u := by simp [gOf, List.getD_eq_getElem?_getD, hu]
    rw [this]; exact hko.cv.2 r X W w
/-- A struct or an array by value. -/
theorem flat_rel {ks : List (Option IntKind)} {cs : Array Value} (h : Mt ks cs.toList) {w : World} {α : Type} {E : Elem α} (hsz : E.sz = ks.length) (hok : ∀ g, MtC ks g → E.ok g = true) :
    ∃ a : α, (∃ g, MtC ks g ∧ a = E.rd g) ∧ ((cE E).enc a).rel (fun _ => none) (fun _ => False) (fun _ => False) w (.agg cs) := by
  obtain ⟨h1, h2⟩ := h.g
  have hn : cs.size = E.sz := by rw [hsz]; have := h.len; simpa using this
  refine ⟨E.rd (gOf cs.toList), ⟨_, h1, rfl⟩, cs, rfl, hn, fun i u hu => ?_⟩
  rw [← E.ok_eq _ (hok _ h1) i (by rw [← hn]; exact (Array.getElem?_eq_some_iff.1 hu).1)]
  exact h2 _ _ _ _ i u (by simpa using hu)
section
variable {H : Type} {enc : TypeId × Value → H} {P : Program} {w : World} {base : Nat} {spare : Nat → Bool} {held : Bool}
/-- A slice argument of flat elements: what is known of it. -/
def IsRows (w : World) (ks : List (Option IntKind)) (a : Option Addr) (len cap : Nat) : Prop :=
  len ≤ cap ∧ (0 < len → ∃ ad, a = some ad ∧ ad.spot = none ∧ ∀ i, i < len → ∃ cs : List Value, Mt ks cs ∧ ∀ j u, cs[j]? = some u → w.cell? ⟨ad.block, ad.off + (i * ks.length + j), none⟩ = some u)
theorem add_spot {a : Addr} {n : Nat} (h : a.spot = none) : a.add n = ⟨a.block, a.off + n, none⟩ := addS h n
theorem cells_lt {ad : Addr} {w : World} {u : Value} (h : w.cell? ad = some u) : ad.block < w.heap.size := cell_lt h
theorem open_rows {r : Reach} {b0 f : Nat} {t e : TypeId} {v : Value} {d : DataW H} {ps : List MemPlace} {ks : List (Option IntKind)} (ht : P.underlying t = some (.slice e)) (hf : flat P f e = some ks) (hc : P.cellsOf e = ks.length) (h0 : 0 < ks.length) (hval : Value.okWide P w r b0 t v) (hd : DataW.Trod enc P w base spare held t v d ps) :
    ∃ a len cap, v = .slice a len cap ∧ IsRows w ks a len cap ∧ (d = .nil ∧ cap = 0 ∨ ∃ elems rest, d = .slice elems rest ∧ len ≤ elems.length) := by
  obtain ⟨a, len, cap, rfl⟩ := okWide_slice ht hval
  obtain ⟨fuel, hd⟩ := hd
  rcases Go.Deep.open_slice ht hd with ⟨hcs, hx⟩ | ⟨a', len', cap', m, n, D, Pl, hcs, hb, hl, hm, hmm, hx, hel⟩
  · simp [Value.cells] at hcs
    obtain ⟨rfl, rfl, rfl⟩ := hcs
    injection hx with hx _
    exact ⟨none, 0, 0, rfl, ⟨Nat.le_refl _, fun h => absurd h (Nat.lt_irrefl _)⟩, .inl ⟨hx, rfl⟩⟩
  · simp [Value.cells] at hcs
    obtain ⟨rfl, rfl, rfl⟩ := hcs
    injection hx with hx _
    have hlm : len ≤ m := by rw [hmm]; split <;> omega
    refine ⟨some a', len, cap, rfl, ⟨hl, fun hpos => ?_⟩, .inr ⟨_, _, hx, by simp⟩⟩
    have hsp : a'.spot = none := by
      obtain ⟨cs0, g1, g2⟩ := hel 0 (by omega)
      have hmt := flat_mt f e ks n _ _ hf g2
      obtain ⟨_, g3, g4⟩ := World.cells?_some g1
      have := g4 0 (by rw [hc]; exact h0)
      rw [Nat.zero_mul, add_zero_, add_zero_] at this
      cases hc0 : cs0[0]? with
      | none => rw [List.getElem?_eq_none_iff] at hc0; have := hmt.len; omega
      | some u => rw [hc0] at this; exact spot_none this
    refine ⟨a', rfl, hsp, fun i hi => ?_⟩
    obtain ⟨cs', g1, g2⟩ := hel i (by omega)
    have hmt := flat_mt f e ks n _ _ hf g2
    obtain ⟨_, g3, g4⟩ := World.cells?_some g1
    refine ⟨cs', hmt, fun j u hu => ?_⟩
    have hj : j < cs'.length := (List.getElem?_eq_some_iff.1 hu).1
    have := g4 j (by omega)
    rw [Go.Deep.add_add, addS hsp, hu, hc] at this
    exact this
end
theorem rows_rel {w : World} {ks : List (Option IntKind)} {a : Option Addr} {len cap : Nat} (h : IsRows w ks a len cap) {α : Type} [Inhabited α] {E : Elem α} (h0 : 0 < ks.length) (hsz : E.sz = ks.length) (hok : ∀ g, MtC ks g → E.ok g = true) :
    ∃ l : List α, l.length = len ∧ (∀ c ∈ l, ∃ g, MtC ks g ∧ c = E.rd g) ∧ (FV.e (.c (slR E l))).rel (fun _ => none) (fun _ => False) (fun _ => False) w (.slice a len cap) := by
  obtain ⟨hl, hx⟩ := h
  by_cases hpos : 0 < len
  · obtain ⟨ad, rfl, hsp, hel⟩ := hx hpos
    obtain ⟨F, hF⟩ := Go.Deep.choose_lt (α := List Value) (p := fun i cs => Mt ks cs ∧ ∀ j u, cs[j]? = some u → w.cell? ⟨ad.block, ad.off + (i * ks.length + j), none⟩ = some u) hel
    have hg : ∀ i, i < len → MtC ks (gOf (F i)) := fun i hi => (hF i hi).1.g.1
    have cell : ∀ i, i < len → ∀ j, j < ks.length → ∃ u, (F i)[j]? = some u := fun i hi j hj => ⟨_, List.getElem?_eq_getElem (by rw [(hF i hi).1.len]; exact hj)⟩
    refine ⟨toL E len (fun i => gOf (F i)), toL_len _ _ _, fun c hc => ?_, ?_⟩
    · simp only [toL, List.mem_map, List.mem_range] at hc
      obtain ⟨i, hi, rfl⟩ := hc
      exact ⟨_, hg i hi, rfl⟩
    · unfold slR
      rw [toL_len]
      obtain ⟨u0, hu0⟩ := cell 0 hpos 0 h0
      have hlt := cells_lt ((hF 0 hpos).2 0 u0 hu0)
      refine ⟨some ad, cap, rfl, hl, fun _ => ⟨ad, rfl, hsp, fun h => h, fun _ h => h, hlt, fun i hi j hj => ?_⟩⟩
      rw [hsz] at hj
      obtain ⟨u, hu⟩ := cell i hi j hj
      refine ⟨u, by rw [hsz]; exact (hF i hi).2 j u hu, ?_⟩
      have e1 : rowF E (toL E len fun i => gOf (F i)) i j = gOf (F i) j := by
        unfold rowF
        rw [toL_get hi]
        exact (E.ok_eq _ (hok _ (hg i hi)) j (by rw [hsz]; exact hj)).symm
      rw [e1]
      exact (hF i hi).1.g.2 _ _ _ _ j u hu
  · have : len = 0 := by omega
    subst this
    exact ⟨[], rfl, (fun c h => by cases h), ⟨a, cap, rfl, hl, fun h => absurd h (Nat.lt_irrefl _)⟩⟩
theorem okA_of {k : IntKind} {g : Nat → CV} {o : Nat} : ∀ {n : Nat}, (∀ i, i < n → isK k (g (o + i)) = true) → okA k g o n = true := by
  intro n
  induction n with
  | zero => intro _; rfl
  | succ n ih => intro h; simp only [okA, Bool.and_eq_true]; exact ⟨h n (by omega), ih fun i hi => h i (by omega)⟩
theorem MtC.k {ks : List (Option IntKind)} {g : Nat → CV} (h : MtC ks g) {j : Nat} {k : IntKind} (hj : ks[j]? = some (some k)) : isK k (g j) = true := by
  obtain ⟨n, hn, _⟩ := h j _ hj
  rw [hn]; simp [isK, kindEq]
theorem MtC.b {ks : List (Option IntKind)} {g : Nat → CV} (h : MtC ks g) {j : Nat} (hj : ks[j]? = some none) : isB (g j) = true := by
  obtain ⟨n, hn⟩ := h j _ hj
  rw [hn]; rfl
theorem MtC.wf {ks : List (Option IntKind)} {g : Nat → CV} (h : MtC ks g) {j : Nat} {k : IntKind} (hj : ks[j]? = some (some k)) : (Lit.int k (valI (g j))).wf = true := by
  obtain ⟨n, hn, hw⟩ := h j _ hj
  rw [hn]; exact hw
end Go.Proofs.Yteacebocjafinaa

/- bytes.Compare, as a contract of AX2. -/
namespace Go.Proofs.Yteacebocjafinaa.AX
open Go.RowKit
set_option linter.unusedVariables false
set_option linter.unusedSimpArgs false
def cmpI : List Int → List Int → Int
  | [], [] => 0
  | [], _ :: _ => -1
  | _ :: _, [] => 1
  | a :: l, b :: m => if a < b then -1 else if b < a then 1 else cmpI l m
structure byL (l : List Int) : Prop where
  q : ∀ x ∈ l, 0 ≤ x ∧ x < 256
theorem u8_lt {a b : Int} (ha : 0 ≤ a ∧ a < 256) (hb : 0 ≤ b ∧ b < 256) : (a.toNat.toUInt8 < b.toNat.toUInt8) ↔ a < b := by
  rw [UInt8.lt_iff_toNat_lt]
  simp only [UInt8.toNat_ofNat']
  omega
theorem cmpI_eq : ∀ (a b : List Int), byL a → byL b → Lib.compareBytes (Lib.bytesOf a) (Lib.bytesOf b) = cmpI a b := by
  intro a
  induction a with
  | nil =>
    intro b _ _
    cases b <;> simp [Lib.bytesOf, Lib.compareBytes, cmpI]
  | cons x a ih =>
    intro b ha hb
    cases b with
    | nil => simp [Lib.bytesOf, Lib.compareBytes, cmpI]
    | cons y b =>
      have hx := ha.q x (by simp)
      have hy := hb.q y (by simp)
      have := ih b ⟨fun z hz => ha.q z (by simp [hz])⟩ ⟨fun z hz => hb.q z (by simp [hz])⟩
      simp only [Lib.bytesOf, List.map_cons, Lib.compareBytes, cmpI] at this ⊢
      rw [this]
      by_cases h1 : x < y
      · rw [if_pos ((u8_lt hx hy).2 h1), if_pos h1]
      · rw [if_neg (fun h => h1 ((u8_lt hx hy).1 h)), if_neg h1]
        by_cases h2 : y < x
        · rw [if_pos ((u8_lt hy hx).2 h2), if_pos h2]
        · rw [if_neg (fun h => h2 ((u8_lt hy hx).1 h)), if_neg h2]
theorem run_bytes {P : Program} {r : Ren} {X W : Nat → Prop} {w : World} {x : List Int} {v : Value} (h : (CV.sl false x.length 1 (rowF (eI .u8) x)).rel r X W w v) : ∃ B : ByteArray, B.data.toList = Lib.bytesOf x ∧ (Extern.Bytes.bytesOf v).run P w = .ok B w := by
  obtain ⟨a, cap, rfl, hn, hc⟩ := h
  cases a with
  | none =>
    have : x = [] := by
      rcases Nat.eq_zero_or_pos x.length with h | h
      · exact List.length_eq_zero_iff.1 h
      · obtain ⟨ad, h, _⟩ := hc h; cases h
    subst this
    exact ⟨.empty, rfl, rfl⟩
  | some ad =>
    refine ⟨⟨(Lib.bytesOf x).toArray⟩, by simp, ?_⟩
    show (Extern.Bytes.loadBytes ad x.length .empty).run P w = _
    rw [Lib.run_loadBytesX w x ad .empty fun j y hy => ?_]
    · congr 1
      apply ByteArray.ext
      show (#[] : Array UInt8) ++ _ = _
      simp
    · have hj : j < x.length := (List.getElem?_eq_some_iff.1 hy).1
      obtain ⟨ad', e, hs, _, _, _, hcell⟩ := hc (by omega)
      injection e with e
      subst e
      obtain ⟨u, hu, hr⟩ := hcell j hj 0 (by omega)
      have hr' : u = .int .u8 (x.getD j default) := hr
      rw [addS hs]
      rw [show j * 1 + 0 = j by omega] at hu
      rw [hu, hr']
      simp [List.getD_eq_getElem?_getD, hy]
theorem eI_sz {k : IntKind} : 0 < (eI k).sz := by show 0 < 1; omega
set_option maxRecDepth 100000 in
theorem compare_ok (x y : List Int) (hx : byL x) (hy : byL y) : PureOk Try.prog 25 [(cSl (eI .u8) eI_sz).enc x, (cSl (eI .u8) eI_sz).enc y] ((cI .i64).enc (cmpI x y)) := by
  intro X w vals hrel hX
  obtain ⟨v0, v1, rfl⟩ : ∃ v0 v1, vals = #[v0, v1] := by
    have h2 : vals.size = 2 := hrel.1
    match vals, h2 with
    | ⟨[a, b]⟩, _ => exact ⟨a, b, rfl⟩
  have h0 : (CV.sl false x.length 1 (rowF (eI .u8) x)).rel (fun _ => none) X (fun _ => False) w v0 := hrel.2 0 _ v0 rfl rfl
  have h1 : (CV.sl false y.length 1 (rowF (eI .u8) y)).rel (fun _ => none) X (fun _ => False) w v1 := hrel.2 1 _ v1 rfl rfl
  obtain ⟨B0, e0, r0⟩ := run_bytes (P := Try.prog) h0
  obtain ⟨B1, e1, r1⟩ := run_bytes (P := Try.prog) h1
  have hc : (Extern.BytealgCompare.compare #[v0, v1]).run Try.prog w = .ok (.int .i64 (cmpI x y)) w := by
    show Sem.run _ (do pure (goInt (Extern.BytealgCompare.cmp (← Extern.Bytes.bytesOf v0) (← Extern.Bytes.bytesOf v1)))) w = _
    simp only [Sem.run_bind, r0, r1, Result.andThen_ok, Sem.run_pure, goInt, Lib.cmp_eq, e0, e1, cmpI_eq x y hx hy]
  clear h0 h1 r0 r1 e0 e1 hrel
  have key : Calls Try.prog 25 #[v0, v1] w fun e w' => e = .returned (.int .i64 (cmpI x y)) ∧ w' = w := by
    go_enter Try.func25, Try.ntmps25
    go_wp2
    rw [run_callFunc_extern Try.func33 (by kernel_rfl) (by kernel_rfl) (by kernel_rfl) (e := Extern.BytealgCompare.compare) (by kernel_rfl), hc]
    simp only [Result.andThen]
    rw [Oper.upon_value]
    go_wp2
    go_ret
    exact ⟨rfl, rfl⟩
  refine key.mono fun e w' ⟨he, hw⟩ => ?_
  subst he hw
  exact ⟨_, rfl, Below.refl _ _, rfl⟩
end Go.Proofs.Yteacebocjafinaa.AX

/- Package contexts: plain functions and contracts. -/
namespace Go.Proofs.Yteacebocjafinaa.AX
set_option linter.unusedVariables false
set_option linter.unusedSimpArgs false

structure Ctx where
  id : Int
  ip : Fin 16 → Int
  bits : Int
  comp : Bool
  til : Int
instance : Inhabited Ctx := ⟨⟨0, fun _ => 0, 0, false, 0⟩⟩
structure Pfx where
  ip : Fin 16 → Int
  bits : Int
def eCtxC (x : Ctx) (j : Nat) : CV := bif Nat.beq j 0 then .int .i64 x.id else bif Nat.blt j 17 then .int .u8 (vget x.ip (j - 1)) else bif Nat.beq j 17 then .int .i64 x.bits else bif Nat.beq j 18 then .bool x.comp else (.int .i64 x.til)
def eCtx : Elem Ctx where
  sz := 20
  cell := eCtxC
  rd g := ⟨valI (g 0), fun q => valI (g (1 + q.1)), valI (g 17), valB (g 18), valI (g 19)⟩
  ok g := isK .i64 (g 0) && okA .u8 g 1 16 && isK .i64 (g 17) && isB (g 18) && isK .i64 (g 19)
  ok_eq g h j hj := by
    simp only [Bool.and_eq_true] at h
    unfold eCtxC
    by_cases c0 : j < 1
    · have e : j = 0 := by omega
      subst e
      exact isK_eq h.1.1.1.1
    by_cases c1 : j < 17
    · have e := okA_at h.1.1.1.2 (j - 1) (by omega)
      rw [show 1 + (j - 1) = j by omega] at e
      have b0 : Nat.beq j 0 = false := by cases hb : Nat.beq j 0 with | false => rfl | true => have := Nat.eq_of_beq_eq_true hb; omega
      rw [b0, cond_false, show Nat.blt j 17 = true from Nat.ble_eq_true_of_le c1, cond_true]
      rw [show vget (fun q : Fin 16 => valI (g (1 + q.1))) (j - 1) = valI (g (1 + (j - 1))) from vget_lt _ (by omega)]
      rw [show 1 + (j - 1) = j by omega]
      exact e
    by_cases c2 : j < 18
    · have e : j = 17 := by omega
      subst e
      exact isK_eq h.1.1.2
    by_cases c3 : j < 19
    · have e : j = 18 := by omega
      subst e
      exact isB_eq h.1.2
    by_cases c4 : j < 20
    · have e : j = 19 := by omega
      subst e
      exact isK_eq h.2
    omega
  flat a j := by
    unfold eCtxC
    cases Nat.beq j 0 with
    | true => exact flat_int
    | false =>
    cases Nat.blt j 17 with
    | true => exact flat_int
    | false =>
    cases Nat.beq j 17 with
    | true => exact flat_int
    | false =>
    cases Nat.beq j 18 with
    | true => exact flat_bool
    | false =>
    exact flat_int
theorem eCtx_sz : 0 < eCtx.sz := by decide
theorem eCtx_ip_at (x : Ctx) (q : Nat) (h : q < 16) : eCtx.cell x (1 + q) = .int .u8 (vget x.ip q) := by
  show eCtxC x (1 + q) = _
  unfold eCtxC
  rw [show Nat.beq (1 + q) 0 = false from by cases hb : Nat.beq (1 + q) 0 with | false => rfl | true => have := Nat.eq_of_beq_eq_true hb; omega, cond_false]
  rw [show Nat.blt (1 + q) 17 = true from Nat.ble_eq_true_of_le (by omega), cond_true]
  rw [show 1 + q - 1 = q by omega]
theorem eCtx_ip (x : Ctx) : (fun q : Fin 16 => valI (eCtx.cell x (1 + q.1))) = x.ip := by
  funext q
  rw [eCtx_ip_at x q.1 q.2]
  exact vget_lt _ q.2
theorem eCtx_rd (x : Ctx) : eCtx.rd (eCtx.cell x) = x := by
  show (⟨x.id, fun q => valI (eCtx.cell x (1 + q.1)), x.bits, x.comp, x.til⟩ : Ctx) = x
  rw [eCtx_ip]
theorem eCtx_ok (x : Ctx) : eCtx.ok (eCtx.cell x) = true := rfl
def ePfxC (x : Pfx) (j : Nat) : CV := bif Nat.blt j 16 then .int .u8 (vget x.ip (j - 0)) else (.int .i64 x.bits)
def ePfx : Elem Pfx where
  sz := 17
  cell := ePfxC
  rd g := ⟨fun q => valI (g (0 + q.1)), valI (g 16)⟩
  ok g := okA .u8 g 0 16 && isK .i64 (g 16)
  ok_eq g h j hj := by
    simp only [Bool.and_eq_true] at h
    unfold ePfxC
    by_cases c0 : j < 16
    · have e := okA_at h.1 (j - 0) (by omega)
      rw [show 0 + (j - 0) = j by omega] at e
      rw [show Nat.blt j 16 = true from Nat.ble_eq_true_of_le c0, cond_true]
      rw [show vget (fun q : Fin 16 => valI (g (0 + q.1))) (j - 0) = valI (g (0 + (j - 0))) from vget_lt _ (by omega)]
      rw [show 0 + (j - 0) = j by omega]
      exact e
    by_cases c1 : j < 17
    · have e : j = 16 := by omega
      subst e
      exact isK_eq h.2
    omega
  flat a j := by
    unfold ePfxC
    cases Nat.blt j 16 with
    | true => exact flat_int
    | false =>
    exact flat_int
theorem ePfx_sz : 0 < ePfx.sz := by decide
theorem ePfx_ip_at (x : Pfx) (q : Nat) (h : q < 16) : ePfx.cell x (0 + q) = .int .u8 (vget x.ip q) := by
  show ePfxC x (0 + q) = _
  unfold ePfxC
  rw [show Nat.blt (0 + q) 16 = true from Nat.ble_eq_true_of_le (by omega), cond_true]
  rw [show 0 + q - 0 = q by omega]
theorem ePfx_ip (x : Pfx) : (fun q : Fin 16 => valI (ePfx.cell x (0 + q.1))) = x.ip := by
  funext q
  rw [ePfx_ip_at x q.1 q.2]
  exact vget_lt _ q.2
theorem ePfx_rd (x : Pfx) : ePfx.rd (ePfx.cell x) = x := by
  show (⟨fun q => valI (ePfx.cell x (0 + q.1)), x.bits⟩ : Pfx) = x
  rw [ePfx_ip]
theorem ePfx_ok (x : Pfx) : ePfx.ok (ePfx.cell x) = true := rfl

def vt (t : Int) : Bool := decide (0 ≤ t) && decide (t ≤ 1099511627776)
def compr (c : Ctx) (now : Int) : Bool := c.comp && decide (now < c.til)
def decom (c : Ctx) (now : Int) : Bool := decide (now < IntKind.i64.wrap (c.til + 32))
/-! ### address.Mask -/
def clampI (b lo hi : Int) : Int := if hi < (if b < lo then lo else b) then hi else (if b < lo then lo else b)
def keepAt (b : Int) (i : Nat) : Int := clampI (b - 8 * i) 0 8
def maskB (a : Fin 16 → Int) (b : Int) (i : Nat) : Int := bits .andNot .u8 (vget a i) (shrI .u8 255 (keepAt b i))
def maskP (a : Fin 16 → Int) (b : Int) : Pfx := ⟨fun q => maskB a (clampI b 0 128) q.1, clampI b 0 128⟩
def maskS (a : Fin 16 → Int) (b : Int) (i : Nat) (j : Nat) : CV := bif Nat.blt j 16 then .int .u8 (if j < i then maskB a b j else 0) else .int .i64 b
theorem upd_step (i j : Nat) (v : Int) (m : Nat → Int) (h : v = m i) : (bif Nat.ble (0 + i * 1) j && Nat.blt j (0 + i * 1 + 1) then v else (if j < i then m j else 0)) = if j < i + 1 then m j else 0 := by
  rw [Nat.mul_one, Nat.zero_add]
  by_cases h1 : j = i
  · subst h1
    have : (Nat.ble j j && Nat.blt j (j + 1)) = true := by simp [Nat.blt]
    rw [this, cond_true, if_pos (by omega), h]
  · have : (Nat.ble i j && Nat.blt j (i + 1)) = false := by
      cases hb : (Nat.ble i j && Nat.blt j (i + 1)) with
      | false => rfl
      | true =>
        simp only [Bool.and_eq_true] at hb
        have := Nat.le_of_ble_eq_true hb.1
        have := Nat.le_of_ble_eq_true hb.2
        omega
    rw [this, cond_false]
    by_cases h2 : j < i
    · rw [if_pos h2, if_pos (by omega)]
    · rw [if_neg h2, if_neg (by omega)]
theorem clampI_in (b : Int) {lo hi : Int} (h : lo ≤ hi) : lo ≤ clampI b lo hi ∧ clampI b lo hi ≤ hi := by unfold clampI; split <;> split <;> omega
def ipEq (a b : Fin 16 → Int) : Bool := (List.range 16).all fun j => vget a j == vget b j
theorem ipEq_iff {a b : Fin 16 → Int} : ipEq a b = true ↔ a = b := by
  simp only [ipEq, List.all_eq_true, List.mem_range, beq_iff_eq]
  constructor
  · intro h
    funext q
    have := h q.1 q.2
    rw [vget_lt _ q.2, vget_lt _ q.2] at this
    exact this
  · rintro rfl j _; rfl
def pEq (p q : Pfx) : Bool := ipEq p.ip q.ip && decide (p.bits = q.bits)
theorem pEq_iff {p q : Pfx} : pEq p q = true ↔ p = q := by
  simp only [pEq, Bool.and_eq_true, ipEq_iff, decide_eq_true_eq]
  constructor
  · rintro ⟨h1, h2⟩
    obtain ⟨a, b⟩ := p
    obtain ⟨c, d⟩ := q
    simp only at h1 h2
    rw [h1, h2]
  · rintro rfl; exact ⟨rfl, rfl⟩
theorem pEq_from (p q : Pfx) : eqFrom (ePfx.cell p) (ePfx.cell q) 17 0 = pEq p q := by
  rw [Bool.eq_iff_iff, eqFrom_iff, pEq_iff]
  simp only [Nat.zero_add]
  constructor
  · intro h
    obtain ⟨a, b⟩ := p
    obtain ⟨c, d⟩ := q
    have h1 : a = c := by
      funext j
      have := h j.1 (by omega)
      rw [← Nat.zero_add j.1, ePfx_ip_at _ _ j.2, ePfx_ip_at _ _ j.2] at this
      simp only [eqCell, beq_iff_eq] at this
      rw [vget_lt _ j.2, vget_lt _ j.2] at this
      exact this
    have h2 : b = d := by
      have := h 16 (by omega)
      have e1 : ∀ x : Pfx, ePfx.cell x 16 = .int .i64 x.bits := fun x => rfl
      rw [e1, e1] at this
      simpa [eqCell] using this
    rw [h1, h2]
  · rintro rfl j hj
    by_cases h16 : j < 16
    · rw [← Nat.zero_add j, ePfx_ip_at _ _ h16]; simp [eqCell]
    · have : j = 16 := by omega
      subst this
      have e1 : ∀ x : Pfx, ePfx.cell x 16 = .int .i64 x.bits := fun x => rfl
      rw [e1]; simp [eqCell]
def vpf (p : Pfx) : Bool := decide (0 ≤ p.bits) && decide (p.bits ≤ 128) && pEq (maskP p.ip p.bits) p
def LE1 : CsL := []
theorem LE1_ok : AllOk Try.prog LE1 := trivial
def pfxOf (c : Ctx) : Pfx := ⟨c.ip, c.bits⟩
theorem pfx_of_ctx (c : Ctx) : ePfx.rd (fun q => eCtx.cell c (1 + q)) = pfxOf c := by
  show (⟨fun q => valI (eCtx.cell c (1 + (0 + q.1))), valI (eCtx.cell c (1 + 16))⟩ : Pfx) = _
  have := eCtx_ip c
  simp only [Nat.zero_add]
  rw [this]
  rfl
def validFrom : Int → List Ctx → Bool
  | _, [] => true
  | b, c :: l => decide (b < c.id) && decide (c.id < 16) && vpf (pfxOf c) && vt c.til && validFrom c.id l
def validT (l : List Ctx) : Bool := validFrom (-1) l
def LE2 : CsL := LE1
theorem LE2_ok : AllOk Try.prog LE2 := LE1_ok
theorem valid_step {l : List Ctx} {i : Nat} (b : Int) (h : i < l.length) : validFrom b (l.drop i) = (decide (b < (l.getD i default).id) && decide ((l.getD i default).id < 16) && vpf (pfxOf (l.getD i default)) && vt (l.getD i default).til && validFrom (l.getD i default).id (l.drop (i + 1))) := by
  have : l.drop i = l.getD i default :: l.drop (i + 1) := by
    rw [List.drop_eq_getElem_cons h, List.getD_eq_getElem?_getD, List.getElem?_eq_getElem h]
    rfl
  rw [this, validFrom]
end Go.Proofs.Yteacebocjafinaa.AX

/- Package contexts: ForDecompression (by AX2). -/
namespace Go.Proofs.Yteacebocjafinaa.AX
set_option linter.unusedVariables false
set_option linter.unusedSimpArgs false
def LE3 : CsL := LE2
theorem LE3_ok : AllOk Try.prog LE3 := LE2_ok
def findDec (id now : Int) : List Ctx → Ctx × Bool
  | [] => (default, false)
  | c :: l => if c.id = id ∧ decom c now = true then (c, true) else findDec id now l
def forDec (l : List Ctx) (id now : Int) : Ctx × Bool := if validT l = true ∧ vt now = true then findDec id now l else (default, false)
def encCB (r : Ctx × Bool) : FV := .tup [.agg eCtx.sz (eCtx.cell r.1), .c (.bool r.2)]
theorem toL_ctx (l : List Ctx) : toL eCtx l.length (rowF eCtx l) = l := toL_row eCtx_rd l
end Go.Proofs.Yteacebocjafinaa.AX

/- Package contexts: ForCompression (by AX2). -/
namespace Go.Proofs.Yteacebocjafinaa.AX
set_option linter.unusedVariables false
set_option linter.unusedSimpArgs false
def better (a : Fin 16 → Int) (now : Int) (r : Ctx × Bool) (c : Ctx) : Bool := compr c now && pEq (maskP a c.bits) (pfxOf c) && (!r.2 || decide (r.1.bits < c.bits))
def foldC (a : Fin 16 → Int) (now : Int) : Ctx × Bool → List Ctx → Ctx × Bool
  | r, [] => r
  | r, c :: l => foldC a now (if better a now r c = true then (c, true) else r) l
def forCom (l : List Ctx) (a : Fin 16 → Int) (now : Int) : Ctx × Bool := if validT l = true ∧ vt now = true then foldC a now (default, false) l else (default, false)
theorem eqFrom_congr {f f' g g' : Nat → CV} {n : Nat} (h1 : ∀ j, j < n → f j = f' j) (h2 : ∀ j, j < n → g j = g' j) : eqFrom f g n 0 = eqFrom f' g' n 0 := by
  rw [Bool.eq_iff_iff, eqFrom_iff, eqFrom_iff]
  simp only [Nat.zero_add]
  constructor
  · intro h i hi; rw [← h1 i hi, ← h2 i hi]; exact h i hi
  · intro h i hi; rw [h1 i hi, h2 i hi]; exact h i hi
theorem ctx_pfx_cell (c : Ctx) : ∀ j, j < 17 → eCtx.cell c (1 + j) = ePfx.cell (pfxOf c) j := by
  intro j hj
  by_cases h : j < 16
  · rw [eCtx_ip_at _ _ h]
    have := ePfx_ip_at (pfxOf c) j h
    rw [Nat.zero_add] at this
    rw [this]; rfl
  · have : j = 16 := by omega
    subst this; rfl
theorem fold_step {l : List Ctx} {i : Nat} (a : Fin 16 → Int) (now : Int) (r : Ctx × Bool) (h : i < l.length) : foldC a now r (l.drop i) = foldC a now (if better a now r (l.getD i default) = true then (l.getD i default, true) else r) (l.drop (i + 1)) := by
  rw [drop_at h, foldC]
theorem rd_ctx (c : Ctx) : eCtx.rd (fun q => eCtx.cell c (0 + q)) = c := by
  simp only [Nat.zero_add]; exact eCtx_rd c
theorem rd_ip (a : Fin 16 → Int) : (eA .u8 16).rd (fun q => (eA .u8 16).cell a (0 + q)) = a := by
  simp only [Nat.zero_add]; exact eA_rd a
theorem eq_pfx (s : Pfx) (c : Ctx) : eqFrom (ePfx.cell s) (fun q => eCtx.cell c (0 + 1 + q)) 17 0 = pEq s (pfxOf c) := by
  rw [← pEq_from]
  exact eqFrom_congr (fun _ _ => rfl) (fun j hj => by rw [Nat.zero_add]; exact ctx_pfx_cell c j hj)
end Go.Proofs.Yteacebocjafinaa.AX

/- The reference of layer 4 (bits, masks, prefixes), by AX2; its plain laws. -/
namespace Go.Proofs.Yteacebocjafinaa.AX
open Go.RowKit
set_option linter.unusedVariables false
set_option linter.unusedSimpArgs false
/-! ### Bytes -/
def bt (x : Int) (j : Int) : Int := bits .and .u8 (shrI .u8 x (7 - j)) 1
def mb (x : Int) (k : Int) : Int := bits .andNot .u8 x (shrI .u8 255 k)
theorem byt_step : ∀ x : Fin 256, ∀ k : Fin 8, bits .or .u8 (mb (x.1 : Nat) (k.1 : Nat)) (shlI .u8 (bt (x.1 : Nat) (k.1 : Nat)) (7 - (k.1 : Nat))) = mb (x.1 : Nat) ((k.1 : Nat) + 1) := by decide +kernel
theorem byt_zero : ∀ x : Fin 256, mb (x.1 : Nat) 0 = 0 := by decide +kernel
theorem byt_rng : ∀ x : Fin 256, ∀ k : Fin 9, 0 ≤ mb (x.1 : Nat) (k.1 : Nat) ∧ mb (x.1 : Nat) (k.1 : Nat) < 256 := by decide +kernel
theorem byt_bit : ∀ x : Fin 256, ∀ k : Fin 9, ∀ j : Fin 8, bt (mb (x.1 : Nat) (k.1 : Nat)) (j.1 : Nat) = if j.1 < k.1 then bt (x.1 : Nat) (j.1 : Nat) else 0 := by decide +kernel
theorem byt_sum : ∀ x : Fin 256, ((x.1 : Nat) : Int) = bt (x.1 : Nat) 0 * 128 + bt (x.1 : Nat) 1 * 64 + bt (x.1 : Nat) 2 * 32 + bt (x.1 : Nat) 3 * 16 + bt (x.1 : Nat) 4 * 8 + bt (x.1 : Nat) 5 * 4 + bt (x.1 : Nat) 6 * 2 + bt (x.1 : Nat) 7 := by decide +kernel
structure byteOk (a : Fin 16 → Int) : Prop where
  q : ∀ q, 0 ≤ a q ∧ a q < 256
theorem byte_nat {x : Int} (h : 0 ≤ x ∧ x < 256) : ∃ y : Fin 256, x = (y.1 : Nat) := ⟨⟨x.toNat, by omega⟩, by show x = (x.toNat : Int); omega⟩
def bitF (a : Fin 16 → Int) (i : Nat) : Int := bt (vget a (i / 8)) ((i % 8 : Nat) : Int)
theorem byteOk.v {a : Fin 16 → Int} (h : byteOk a) (j : Nat) : 0 ≤ vget a j ∧ vget a j < 256 := by
  unfold vget
  split
  · exact h.q _
  · omega
theorem byte_ext {x y : Int} (hx : 0 ≤ x ∧ x < 256) (hy : 0 ≤ y ∧ y < 256) (h : ∀ j, j < 8 → bt x (j : Nat) = bt y (j : Nat)) : x = y := by
  obtain ⟨x, rfl⟩ := byte_nat hx
  obtain ⟨y, rfl⟩ := byte_nat hy
  rw [byt_sum x, byt_sum y]
  have h0 := h 0 (by omega)
  have h1 := h 1 (by omega)
  have h2 := h 2 (by omega)
  have h3 := h 3 (by omega)
  have h4 := h 4 (by omega)
  have h5 := h 5 (by omega)
  have h6 := h 6 (by omega)
  have h7 := h 7 (by omega)
  rw [show bt (x.1 : Nat) 0 = bt (y.1 : Nat) 0 from h0, show bt (x.1 : Nat) 1 = bt (y.1 : Nat) 1 from h1, show bt (x.1 : Nat) 2 = bt (y.1 : Nat) 2 from h2, show bt (x.1 : Nat) 3 = bt (y.1 : Nat) 3 from h3, show bt (x.1 : Nat) 4 = bt (y.1 : Nat) 4 from h4, show bt (x.1 : Nat) 5 = bt (y.1 : Nat) 5 from h5, show bt (x.1 : Nat) 6 = bt (y.1 : Nat) 6 from h6, show bt (x.1 : Nat) 7 = bt (y.1 : Nat) 7 from h7]
theorem ip_ext {a b : Fin 16 → Int} (ha : byteOk a) (hb : byteOk b) (h : ∀ i, i < 128 → bitF a i = bitF b i) : a = b := by
  funext q
  refine byte_ext (ha.q q) (hb.q q) fun j hj => ?_
  have := h (8 * q.1 + j) (by omega)
  unfold bitF at this
  rw [show (8 * q.1 + j) / 8 = q.1 by omega, show (8 * q.1 + j) % 8 = j by omega, vget_lt _ q.2, vget_lt _ q.2] at this
  exact this
theorem keepAt_in (b : Int) (i : Nat) : ∃ k : Fin 9, keepAt b i = (k.1 : Nat) := by
  have := clampI_in (b - 8 * i) (lo := 0) (hi := 8) (by omega)
  exact ⟨⟨(keepAt b i).toNat, by unfold keepAt; omega⟩, by show keepAt b i = ((keepAt b i).toNat : Int); unfold keepAt; omega⟩
theorem mask_byteOk {a : Fin 16 → Int} (ha : byteOk a) (b : Int) : byteOk (maskP a b).ip := by
  refine ⟨fun q => ?_⟩
  show 0 ≤ mb (vget a q.1) (keepAt (clampI b 0 128) q.1) ∧ mb (vget a q.1) (keepAt (clampI b 0 128) q.1) < 256
  obtain ⟨x, hx⟩ := byte_nat (ha.v q.1)
  obtain ⟨k, hk⟩ := keepAt_in (clampI b 0 128) q.1
  rw [hx, hk]
  exact byt_rng x k
theorem mask_bit {a : Fin 16 → Int} (ha : byteOk a) {b : Int} (h0 : 0 ≤ b) (h1 : b ≤ 128) {i : Nat} (hi : i < 128) : bitF (maskP a b).ip i = if (i : Int) < b then bitF a i else 0 := by
  have hcl : clampI b 0 128 = b := by unfold clampI; split <;> split <;> omega
  unfold bitF
  rw [vget_lt _ (show i / 8 < 16 by omega)]
  show bt (mb (vget a (i / 8)) (keepAt (clampI b 0 128) (i / 8))) _ = _
  rw [hcl]
  obtain ⟨x, hx⟩ := byte_nat (ha.v (i / 8))
  obtain ⟨k, hk⟩ := keepAt_in b (i / 8)
  rw [hx, hk, byt_bit x k ⟨i % 8, by omega⟩]
  have e : (i % 8 < k.1) ↔ ((i : Int) < b) := by
    have : keepAt b (i / 8) = clampI (b - 8 * ((i / 8 : Nat) : Int)) 0 8 := rfl
    rw [this] at hk
    unfold clampI at hk
    split at hk <;> split at hk <;> omega
  by_cases h : i % 8 < k.1
  · rw [if_pos h, if_pos (e.1 h)]
  · rw [if_neg h, if_neg (fun h' => h (e.2 h'))]
theorem clamp_id {b : Int} (h0 : 0 ≤ b) (h1 : b ≤ 128) : clampI b 0 128 = b := by unfold clampI; split <;> split <;> omega
theorem mask_iff {a : Fin 16 → Int} {p : Pfx} (ha : byteOk a) (hp : byteOk p.ip) : maskP a p.bits = p ↔ (0 ≤ p.bits ∧ p.bits ≤ 128) ∧ ∀ i, i < 128 → bitF p.ip i = if (i : Int) < p.bits then bitF a i else 0 := by
  constructor
  · intro h
    have hb : (maskP a p.bits).bits = p.bits := by rw [h]
    have hb' : clampI p.bits 0 128 = p.bits := hb
    have := clampI_in p.bits (lo := 0) (hi := 128) (by omega)
    refine ⟨by omega, fun i hi => ?_⟩
    have hm := mask_bit ha (b := p.bits) (by omega) (by omega) hi
    rw [h] at hm
    exact hm
  · rintro ⟨⟨h0, h1⟩, h⟩
    have hip : (maskP a p.bits).ip = p.ip := ip_ext (mask_byteOk ha _) hp fun i hi => by rw [mask_bit ha h0 h1 hi, h i hi]
    have hbb : (maskP a p.bits).bits = p.bits := clamp_id h0 h1
    obtain ⟨pi, pb⟩ := p
    cases hm : maskP a pb with
    | mk x y =>
      simp only [hm] at hip hbb
      rw [hip, hbb]
theorem vpf_iff {p : Pfx} (hp : byteOk p.ip) : vpf p = true ↔ (0 ≤ p.bits ∧ p.bits ≤ 128) ∧ ∀ i : Nat, i < 128 → p.bits ≤ (i : Int) → bitF p.ip i = 0 := by
  unfold vpf
  simp only [Bool.and_eq_true, decide_eq_true_eq, pEq_iff]
  rw [mask_iff hp hp]
  constructor
  · rintro ⟨h, _, h2⟩
    refine ⟨h, fun i hi hb => ?_⟩
    have := h2 i hi
    rw [if_neg (by omega)] at this
    exact this
  · rintro ⟨h, h2⟩
    refine ⟨h, h, fun i hi => ?_⟩
    by_cases hb : (i : Int) < p.bits
    · rw [if_pos hb]
    · rw [if_neg hb]; exact h2 i hi (by omega)
theorem mask_vpf {a : Fin 16 → Int} (ha : byteOk a) (b : Int) : vpf (maskP a b) = true := by
  rw [vpf_iff (mask_byteOk ha b)]
  have hc := clampI_in b (lo := 0) (hi := 128) (by omega)
  have e : maskP a b = maskP a (clampI b 0 128) := by
    unfold maskP
    rw [clamp_id hc.1 hc.2]
  have eb : (maskP a b).bits = clampI b 0 128 := rfl
  refine ⟨by rw [eb]; exact hc, fun i hi h => ?_⟩
  rw [e, mask_bit ha hc.1 hc.2 hi, if_neg (by rw [eb] at h; omega)]
def cmn (a b : Fin 16 → Int) : Nat → Nat → Nat
  | 0, n => n
  | k + 1, n => if bitF a n = bitF b n then cmn a b k (n + 1) else n
theorem cmn_ge {a b : Fin 16 → Int} {m : Nat} : ∀ (k n : Nat), m ≤ cmn a b k n ↔ m ≤ n ∨ (m ≤ n + k ∧ ∀ i, n ≤ i → i < m → bitF a i = bitF b i) := by
  intro k
  induction k with
  | zero => intro n; simp only [cmn]; constructor
            · exact fun h => .inl h
            · rintro (h | h)
              · exact h
              · omega
  | succ k ih =>
    intro n
    simp only [cmn]
    by_cases h : bitF a n = bitF b n
    · rw [if_pos h, ih]
      constructor
      · rintro (h1 | ⟨h1, h2⟩)
        · by_cases h3 : m ≤ n
          · exact .inl h3
          · refine .inr ⟨by omega, fun i hi hm => ?_⟩
            have : i = n := by omega
            subst this; exact h
        · by_cases h3 : m ≤ n
          · exact .inl h3
          · refine .inr ⟨by omega, fun i hi hm => ?_⟩
            by_cases hin : i = n
            · subst hin; exact h
            · exact h2 i (by omega) hm
      · rintro (h1 | ⟨h1, h2⟩)
        · exact .inl (by omega)
        · by_cases h3 : m ≤ n + 1
          · exact .inl h3
          · exact .inr ⟨by omega, fun i hi hm => h2 i (by omega) hm⟩
    · rw [if_neg h]
      constructor
      · exact fun h => .inl h
      · rintro (h1 | ⟨h1, h2⟩)
        · exact h1
        · by_cases h3 : m ≤ n
          · exact h3
          · exact absurd (h2 n (Nat.le_refl _) (by omega)) h
theorem cmn_le {a b : Fin 16 → Int} : ∀ (k n : Nat), cmn a b k n ≤ n + k := by
  intro k
  induction k with
  | zero => intro n; simp [cmn]
  | succ k ih => intro n; simp only [cmn]; split
                 · have := ih (n + 1); omega
                 · omega
def common (a b : Fin 16 → Int) : Nat := cmn a b 128 0
def containsF (p : Pfx) (a : Fin 16 → Int) : Bool := pEq (maskP a p.bits) p
theorem contains_iff {p : Pfx} {a : Fin 16 → Int} (hp : byteOk p.ip) (ha : byteOk a) : (vpf p = true ∧ p.bits ≤ (common p.ip a : Int)) ↔ containsF p a = true := by
  unfold containsF
  rw [pEq_iff, mask_iff ha hp, vpf_iff hp]
  unfold common
  constructor
  · rintro ⟨⟨h, h2⟩, h3⟩
    refine ⟨h, fun i hi => ?_⟩
    have h4 : p.bits.toNat ≤ cmn p.ip a 128 0 := by omega
    rw [cmn_ge] at h4
    by_cases hb : (i : Int) < p.bits
    · rw [if_pos hb]
      rcases h4 with h4 | ⟨_, h4⟩
      · omega
      · exact h4 i (by omega) (by omega)
    · rw [if_neg hb]; exact h2 i hi (by omega)
  · rintro ⟨h, h2⟩
    refine ⟨⟨h, fun i hi hb => ?_⟩, ?_⟩
    · have := h2 i hi
      rw [if_neg (by omega)] at this
      exact this
    · have : p.bits.toNat ≤ cmn p.ip a 128 0 := by
        rw [cmn_ge]
        refine .inr ⟨by omega, fun i _ hi => ?_⟩
        have := h2 i (by omega)
        rw [if_pos (by omega)] at this
        exact this
      omega
end Go.Proofs.Yteacebocjafinaa.AX

/- Package mobility: isTime, validSequence, Valid (by AX2). -/
namespace Go.Proofs.Yteacebocjafinaa.AX
open Go.RowKit
set_option linter.unusedVariables false
set_option linter.unusedSimpArgs false
structure Bd where
  home : Fin 16 → Int
  place : Fin 16 → Int
  seq : Int
  til : Int
instance : Inhabited Bd := ⟨⟨fun _ => 0, fun _ => 0, 0, 0⟩⟩
def eBdC (x : Bd) (j : Nat) : CV := bif Nat.blt j 16 then .int .u8 (vget x.home (j - 0)) else bif Nat.blt j 32 then .int .u8 (vget x.place (j - 16)) else bif Nat.beq j 32 then .int .i64 x.seq else (.int .i64 x.til)
def eBd : Elem Bd where
  sz := 34
  cell := eBdC
  rd g := ⟨fun q => valI (g (0 + q.1)), fun q => valI (g (16 + q.1)), valI (g 32), valI (g 33)⟩
  ok g := okA .u8 g 0 16 && okA .u8 g 16 16 && isK .i64 (g 32) && isK .i64 (g 33)
  ok_eq g h j hj := by
    simp only [Bool.and_eq_true] at h
    unfold eBdC
    by_cases c0 : j < 16
    · have e := okA_at h.1.1.1 (j - 0) (by omega)
      rw [show 0 + (j - 0) = j by omega] at e
      rw [show Nat.blt j 16 = true from Nat.ble_eq_true_of_le c0, cond_true]
      rw [show vget (fun q : Fin 16 => valI (g (0 + q.1))) (j - 0) = valI (g (0 + (j - 0))) from vget_lt _ (by omega)]
      rw [show 0 + (j - 0) = j by omega]
      exact e
    by_cases c1 : j < 32
    · have e := okA_at h.1.1.2 (j - 16) (by omega)
      rw [show 16 + (j - 16) = j by omega] at e
      have b0 : Nat.blt j 16 = false := by cases hb : Nat.blt j 16 with | false => rfl | true => have := Nat.le_of_ble_eq_true hb; omega
      rw [b0, cond_false, show Nat.blt j 32 = true from Nat.ble_eq_true_of_le c1, cond_true]
      rw [show vget (fun q : Fin 16 => valI (g (16 + q.1))) (j - 16) = valI (g (16 + (j - 16))) from vget_lt _ (by omega)]
      rw [show 16 + (j - 16) = j by omega]
      exact e
    by_cases c2 : j < 33
    · have e : j = 32 := by omega
      subst e
      exact isK_eq h.1.2
    by_cases c3 : j < 34
    · have e : j = 33 := by omega
      subst e
      exact isK_eq h.2
    omega
  flat a j := by
    unfold eBdC
    cases Nat.blt j 16 with
    | true => exact flat_int
    | false =>
    cases Nat.blt j 32 with
    | true => exact flat_int
    | false =>
    cases Nat.beq j 32 with
    | true => exact flat_int
    | false =>
    exact flat_int
theorem eBd_sz : 0 < eBd.sz := by decide
theorem eBd_home_at (x : Bd) (q : Nat) (h : q < 16) : eBd.cell x (0 + q) = .int .u8 (vget x.home q) := by
  show eBdC x (0 + q) = _
  unfold eBdC
  rw [show Nat.blt (0 + q) 16 = true from Nat.ble_eq_true_of_le (by omega), cond_true]
  rw [show 0 + q - 0 = q by omega]
theorem eBd_home (x : Bd) : (fun q : Fin 16 => valI (eBd.cell x (0 + q.1))) = x.home := by
  funext q
  rw [eBd_home_at x q.1 q.2]
  exact vget_lt _ q.2
theorem eBd_place_at (x : Bd) (q : Nat) (h : q < 16) : eBd.cell x (16 + q) = .int .u8 (vget x.place q) := by
  show eBdC x (16 + q) = _
  unfold eBdC
  rw [show Nat.blt (16 + q) 16 = false from by cases hb : Nat.blt (16 + q) 16 with | false => rfl | true => have := Nat.le_of_ble_eq_true hb; omega, cond_false]
  rw [show Nat.blt (16 + q) 32 = true from Nat.ble_eq_true_of_le (by omega), cond_true]
  rw [show 16 + q - 16 = q by omega]
theorem eBd_place (x : Bd) : (fun q : Fin 16 => valI (eBd.cell x (16 + q.1))) = x.place := by
  funext q
  rw [eBd_place_at x q.1 q.2]
  exact vget_lt _ q.2
theorem eBd_rd (x : Bd) : eBd.rd (eBd.cell x) = x := by
  show (⟨fun q => valI (eBd.cell x (0 + q.1)), fun q => valI (eBd.cell x (16 + q.1)), x.seq, x.til⟩ : Bd) = x
  rw [eBd_home, eBd_place]
theorem eBd_ok (x : Bd) : eBd.ok (eBd.cell x) = true := rfl
theorem rd_bd (b : Bd) : (eBd.rd fun q => eBd.cell b (0 + q)) = b := by simp only [Nat.zero_add]; exact eBd_rd b
theorem toL_bd (l : List Bd) : toL eBd l.length (rowF eBd l) = l := toL_row eBd_rd l
def ipLm (a : Fin 16 → Int) : List Int := (List.range 16).map (vget a)
def ipC (a b : Fin 16 → Int) : Int := cmpI (ipLm a) (ipLm b)
theorem ipL_by {a : Fin 16 → Int} (h : byteOk a) : byL (ipLm a) := by
  refine ⟨fun x hx => ?_⟩
  simp only [ipLm, List.mem_map, List.mem_range] at hx
  obtain ⟨i, hi, rfl⟩ := hx
  rw [vget_lt _ hi]
  exact h.q _
theorem toL_home {g : Nat → Nat → CV} {a : Fin 16 → Int} (h : ∀ i, i < 16 → g i 0 = .int .u8 (vget a i)) : toL (eI .u8) 16 g = ipLm a := by
  unfold toL ipLm
  refine List.map_congr_left fun i hi => ?_
  show valI (g i 0) = _
  rw [h i (List.mem_range.1 hi)]; rfl
theorem home_cell {x : Bd} {n s : Nat} (h : n = 0 + s) (hs : s < 16) : eBd.cell x n = .int .u8 (vget x.home s) := by rw [h]; exact eBd_home_at x s hs
theorem home_ok {x : Bd} {n s : Nat} (h : n = 0 + s) (hs : s < 16) : isK .u8 (eBd.cell x n) = true := by rw [home_cell h hs]; rfl
theorem byL_home {g : Nat → Nat → CV} {a : Fin 16 → Int} (hb : byteOk a) (h : ∀ i, i < 16 → g i 0 = .int .u8 (vget a i)) : byL (toL (eI .u8) 16 g) := by rw [toL_home h]; exact ipL_by hb
theorem cmp_home {g g' : Nat → Nat → CV} {a a' : Fin 16 → Int} (h : ∀ i, i < 16 → g i 0 = .int .u8 (vget a i)) (h' : ∀ i, i < 16 → g' i 0 = .int .u8 (vget a' i)) : cmpI (toL (eI .u8) 16 g) (toL (eI .u8) 16 g') = ipC a a' := by rw [toL_home h, toL_home h']; rfl
def sqOk (s : Int) : Bool := decide (0 ≤ s) && decide (s ≤ 1073741824)
theorem mtime_ok (t : Int) : PureOk Try.prog 23 [(cI .i64).enc t] (cB.enc (vt t)) := by
  refine pure_intro (wd := 1) (Q := mkQ LE0) (by decide) tysOk (q_of LE0_ok) mixed Try.func23 rfl _ (by show 1 ≤ _; decide) _ ?_
  repeat' (first | (apply And.intro <;> intro hc <;> (first | exact Bool.noConfusion hc | (simp only [decide_eq_true_eq, decide_eq_false_iff_not, Bool.not_eq_true', Bool.not_eq_false', beq_iff_eq, beq_eq_false_iff_ne, bne_iff_ne, bne_eq_false_iff_eq, Bool.true_eq_false, Bool.false_eq_true] at hc) | skip)) | (refine And.intro (by first | exact trivial | decide | omega | (dsimp only; omega) | exact fun _ _ => rfl) ?_) | (apply And.intro) | (intro s hs))
  all_goals (refine Done.mk (leF_bool ?_); simp [vt, *])
theorem mseq_ok (t : Int) : PureOk Try.prog 24 [(cI .i64).enc t] (cB.enc (sqOk t)) := by
  refine pure_intro (wd := 1) (Q := mkQ LE0) (by decide) tysOk (q_of LE0_ok) mixed Try.func24 rfl _ (by show 1 ≤ _; decide) _ ?_
  repeat' (first | (apply And.intro <;> intro hc <;> (first | exact Bool.noConfusion hc | (simp only [decide_eq_true_eq, decide_eq_false_iff_not, Bool.not_eq_true', Bool.not_eq_false', beq_iff_eq, beq_eq_false_iff_ne, bne_iff_ne, bne_eq_false_iff_eq, Bool.true_eq_false, Bool.false_eq_true] at hc) | skip)) | (refine And.intro (by first | exact trivial | decide | omega | (dsimp only; omega) | exact fun _ _ => rfl) ?_) | (apply And.intro) | (intro s hs))
  all_goals (refine Done.mk (leF_bool ?_); simp [sqOk, *])
def LMb0 : CsL := (23, some (pureE (AC.cons (cI .i64) AC.nil) (fun _ => True) (fun a => vt a.1) cB.enc)) :: (24, some (pureE (AC.cons (cI .i64) AC.nil) (fun _ => True) (fun a => sqOk a.1) cB.enc)) ::
  (25, some (pureE (AC.cons (cSl (eI .u8) eI_sz) (AC.cons (cSl (eI .u8) eI_sz) AC.nil)) (fun a => byL a.1 ∧ byL a.2.1) (fun a => cmpI a.1 a.2.1) (cI .i64).enc)) :: []
theorem LMb0_ok : AllOk Try.prog LMb0 := ⟨pureE_ok ⟨_, Try.func23, rfl, by kernel_rfl⟩ fun a _ => mtime_ok a.1, pureE_ok ⟨_, Try.func24, rfl, by kernel_rfl⟩ fun a _ => mseq_ok a.1, pureE_ok ⟨_, Try.func25, rfl, by kernel_rfl⟩ fun a h => compare_ok a.1 a.2.1 h.1 h.2, trivial⟩
def bdOk (b : Bd) : Bool := !(ipEq b.place b.home) && sqOk b.seq && vt b.til
def ordOk : Option (Fin 16 → Int) → (Fin 16 → Int) → Bool
  | none, _ => true
  | some h, a => decide (ipC h a < 0)
def bvF : Option (Fin 16 → Int) → List Bd → Bool
  | _, [] => true
  | p, b :: l => bdOk b && ordOk p b.home && bvF (some b.home) l
def bvalid (l : List Bd) : Bool := decide (l.length ≤ 32) && bvF none l
structure bdL (l : List Bd) : Prop where
  b : ∀ b ∈ l, byteOk b.home ∧ byteOk b.place
  n : l.length ≤ 2932031007317
def pvB (l : List Bd) (i : Nat) : Option (Fin 16 → Int) := if i = 0 then none else some (l.getD (i - 1) default).home
theorem memB {L : List Bd} {i : Nat} (h : i < L.length) : L.getD i default ∈ L := by
  rw [List.getD_eq_getElem?_getD, List.getElem?_eq_getElem h]
  exact List.getElem_mem h
theorem bv_step {l : List Bd} {i : Nat} (p : Option (Fin 16 → Int)) (h : i < l.length) : bvF p (l.drop i) = (bdOk (l.getD i default) && ordOk p (l.getD i default).home && bvF (pvB l (i + 1)) (l.drop (i + 1))) := by
  rw [drop_at h, bvF]; simp [pvB]
set_option maxHeartbeats 4000000 in
set_option maxRecDepth 20000 in
theorem mvalid_ok (l : List Bd) (hl : bdL l) : PureOk Try.prog 22 [(cSl eBd eBd_sz).enc l] (cB.enc (bvalid l)) := by
  have hn := hl.n
  refine pure_intro (wd := 1) (Q := mkQ LMb0) (by decide) tysOk (q_of LMb0_ok) mixed Try.func22 rfl _ (by show 1 ≤ _; decide) _ ?_
  repeat' (first | (apply And.intro <;> intro hc <;> (first | exact Bool.noConfusion hc | (simp only [decide_eq_true_eq, decide_eq_false_iff_not, Bool.not_eq_true', Bool.not_eq_false', beq_iff_eq, beq_eq_false_iff_ne, bne_iff_ne, bne_eq_false_iff_eq, Bool.true_eq_false, Bool.false_eq_true] at hc) | skip)) | (refine And.intro (by first | exact trivial | decide | omega | (dsimp only; omega) | exact fun _ _ => rfl) ?_) | (apply And.intro) | (intro s hs))
  · have e : bvalid l = false := by unfold bvalid; rw [decide_eq_false (by omega)]; rfl
    rw [e]
    exact Done.mk (leF_bool rfl)
  have e : bvalid l = bvF none l := by unfold bvalid; rw [decide_eq_true (by omega)]; rfl
  rw [e]
  refine loop_intro (mono_of LMb0_ok) (fun i : {i : Nat // i ≤ l.length ∧ bvF none l = bvF (pvB l i) (l.drop i)} => (⟨[(0, one (.sl false l.length eBd.sz (rowF eBd l))), (8, one (.sl false l.length eBd.sz (rowF eBd l))), (9, one (.int .i64 (l.length : Int))), (10, one (.int .i64 (i.1 : Int)))], [], 10⟩ : Hd)) (fun i => l.length - i.1) (fun _ => rfl) ?_ ⟨0, by omega, rfl⟩ [] ?_
  · rintro ⟨i, hi, hv⟩
    dsimp only at hi hv ⊢
    have hcmp : 0 < (i : Int) → (0 ≤ IntKind.i64.wrap ((i : Int) - 1) ∧ IntKind.i64.wrap ((i : Int) - 1) < (l.length : Int)) ∧ (IntKind.i64.wrap ((i : Int) - 1)).toNat < l.length ∧ pvB l i = some (l.getD (IntKind.i64.wrap ((i : Int) - 1)).toNat default).home := fun h => by
      rw [show IntKind.i64.wrap ((i : Int) - 1) = (i : Int) - 1 from IntWalk.i64_in _ (by omega)]
      exact ⟨⟨by omega, by omega⟩, by omega, by rw [pvB, if_neg (by omega), show ((i : Int) - 1).toNat = i - 1 by omega]⟩
    have hp0 : ¬ 0 < (i : Int) → pvB l i = none := fun h => by rw [pvB, if_pos (by omega)]
    repeat' (first | (apply And.intro <;> intro hc <;> (first | exact Bool.noConfusion hc | (simp only [decide_eq_true_eq, decide_eq_false_iff_not, Bool.not_eq_true', Bool.not_eq_false', beq_iff_eq, beq_eq_false_iff_ne, bne_iff_ne, bne_eq_false_iff_eq, Bool.true_eq_false, Bool.false_eq_true] at hc) | skip)) | (refine And.intro (by first | exact trivial | decide | omega | (dsimp only; omega) | exact fun _ _ => rfl) ?_) | (apply And.intro) | (intro s hs))
    all_goals first
      | exact (hcmp (by assumption)).1.1
      | exact (hcmp (by assumption)).1.2
      | exact home_ok (s := s) (by omega) (by omega)
      | (dsimp only; refine byL_home (hl.b _ (memB (hcmp (by assumption)).2.1)).1 (fun k hk => ?_); exact home_cell (by omega) hk)
      | (dsimp only; refine byL_home (hl.b _ (memB (show i < l.length by omega))).1 (fun k hk => ?_); exact home_cell (by omega) hk)
      | (refine Done.mk (leF_bool ?_)
         have hlt : i < l.length := by omega
         symm
         rw [hv, bv_step _ hlt, Bool.eq_false_iff]
         intro h
         simp only [Bool.and_eq_true, bdOk, Bool.not_eq_true'] at h
         obtain ⟨⟨⟨⟨h1, h2⟩, h3⟩, h4⟩, _⟩ := h
         first
           | (have q : ipEq (l.getD i default).place (l.getD i default).home = true := by assumption
              rw [h1] at q; cases q)
           | (have q : s = sqOk (l.getD i default).seq := hs
              have q2 : s = false := by assumption
              rw [q, h2] at q2; cases q2)
           | (have q : s = vt (l.getD i default).til := hs
              have q2 : s = false := by assumption
              rw [q, h3] at q2; cases q2)
           | (have q2 : 0 < (i : Int) := by assumption
              have q : s = ipC (l.getD (IntKind.i64.wrap ((i : Int) - 1)).toNat default).home (l.getD i default).home := by rw [hs]; dsimp only; refine cmp_home (fun k hk => ?_) (fun k hk => ?_) <;> exact home_cell (by omega) hk
              have q3 : 0 ≤ s := by assumption
              rw [(hcmp q2).2.2] at h4
              simp only [ordOk, decide_eq_true_eq] at h4
              omega))
      | (have hlt : i < l.length := by omega
         have b1 : ipEq (l.getD i default).place (l.getD i default).home = false := by assumption
         have b4 : ordOk (pvB l i) (l.getD i default).home = true := by
           first
             | (rw [hp0 (by assumption)]; rfl)
             | (have q2 : 0 < (i : Int) := by assumption
                have q : s = ipC (l.getD (IntKind.i64.wrap ((i : Int) - 1)).toNat default).home (l.getD i default).home := by rw [hs]; dsimp only; refine cmp_home (fun k hk => ?_) (fun k hk => ?_) <;> exact home_cell (by omega) hk
                have q3 : ¬ 0 ≤ s := by assumption
                rw [(hcmp q2).2.2]
                simp only [ordOk, decide_eq_true_eq]
                omega)
         have b23 : sqOk (l.getD i default).seq = true ∧ vt (l.getD i default).til = true := by
           first
             | (rename_i s1 hs1 c1 c2
                exact ⟨(show _ = s1 from hs1.symm).trans c1, (show _ = s from hs.symm).trans (by assumption)⟩)
             | (rename_i s1 hs1 c1 c2 c3
                exact ⟨(show _ = s1 from hs1.symm).trans c1, (show _ = s from hs.symm).trans c2⟩)
             | (rename_i s1 hs1 c1 s2 hs2 c2 c3
                exact ⟨(show _ = s1 from hs1.symm).trans c1, (show _ = s2 from hs2.symm).trans c2⟩)
         refine ⟨⟨i + 1, by omega, ?_⟩, [], by dsimp only; omega, rfl, ?_, ?_⟩
         · rw [hv, bv_step _ hlt, bdOk, b1, b4, b23.1, b23.2]; rfl
         · repeat' (first | exact trivial | exact rfl | exact leF_ptr rfl | exact leF_int rfl | exact leF_bool rfl | exact leF_cl (cl_slB _ _) | exact leF_cl (cl_slR _ _) | exact leF_cl (cl_ll _ _) | exact leF_c (leC_os rfl rfl) | refine leF_int ?_ | refine leF_bool ?_ | exact leN_varA (fun _ _ => (Elem.flat _ _ _).le) | exact leN_varA (fun _ _ => leC_top) | apply And.intro)
           first | (dsimp only; rw [IntWalk.i64_in _ (by omega)]; omega) | (dsimp only; rw [IntWalk.i64_in _ (by omega)]; done) | (dsimp only; exact IntWalk.i64_in _ (by omega)) | exact IntWalk.i64_in _ (by omega) | (rw [IntWalk.i64_in _ (by omega)]; omega)
         · repeat' (first | exact trivial | exact rfl | exact leF_ptr rfl | exact leF_int rfl | exact leF_bool rfl | exact leF_cl (cl_slB _ _) | exact leF_cl (cl_slR _ _) | exact leF_cl (cl_ll _ _) | exact leF_c (leC_os rfl rfl) | refine leF_int ?_ | refine leF_bool ?_ | exact leN_varA (fun _ _ => (Elem.flat _ _ _).le) | exact leN_varA (fun _ _ => leC_top) | apply And.intro))
      | (refine Done.mk (leF_bool ?_)
         have hil : i = l.length := by omega
         rw [hv, hil, List.drop_length]; rfl)
  · refine ⟨rfl, ?_, ?_⟩
    · repeat' (first | exact trivial | exact rfl | exact leF_ptr rfl | exact leF_int rfl | exact leF_bool rfl | exact leF_cl (cl_slB _ _) | exact leF_cl (cl_slR _ _) | exact leF_cl (cl_ll _ _) | exact leF_c (leC_os rfl rfl) | refine leF_int ?_ | refine leF_bool ?_ | exact leN_varA (fun _ _ => (Elem.flat _ _ _).le) | exact leN_varA (fun _ _ => leC_top) | apply And.intro)
    · repeat' (first | exact trivial | exact rfl | exact leF_ptr rfl | exact leF_int rfl | exact leF_bool rfl | exact leF_cl (cl_slB _ _) | exact leF_cl (cl_slR _ _) | exact leF_cl (cl_ll _ _) | exact leF_c (leC_os rfl rfl) | refine leF_int ?_ | refine leF_bool ?_ | exact leN_varA (fun _ _ => (Elem.flat _ _ _).le) | exact leN_varA (fun _ _ => leC_top) | apply And.intro)
end Go.Proofs.Yteacebocjafinaa.AX

/- Package mobility: Place (by AX2). -/
namespace Go.Proofs.Yteacebocjafinaa.AX
open Go.RowKit
set_option linter.unusedVariables false
set_option linter.unusedSimpArgs false
def LM1 : CsL := (22, some (pureE (AC.cons (cSl eBd eBd_sz) AC.nil) (fun a => bdL a.1) (fun a => bvalid a.1) cB.enc)) :: LMb0
theorem LM1_ok : AllOk Try.prog LM1 := ⟨pureE_ok ⟨_, Try.func22, rfl, by kernel_rfl⟩ fun a h => mvalid_ok a.1 h, LMb0_ok⟩
def ip0 : Fin 16 → Int := fun _ => 0
def findP (now : Int) (home : Fin 16 → Int) : List Bd → (Fin 16 → Int) × Bool
  | [] => (ip0, false)
  | b :: l => if ipEq b.home home = true ∧ now < b.til then (b.place, true) else findP now home l
def placeF (l : List Bd) (now : Int) (home : Fin 16 → Int) : (Fin 16 → Int) × Bool := if bvalid l = true ∧ vt now = true then findP now home l else (ip0, false)
def encPB (r : (Fin 16 → Int) × Bool) : FV := .tup [.agg 16 ((eA .u8 16).cell r.1), .c (.bool r.2)]
set_option maxHeartbeats 4000000 in
set_option maxRecDepth 20000 in
theorem place_ok (l : List Bd) (now : Int) (home : Fin 16 → Int) (hl : bdL l) : PureOk Try.prog 11 [(cSl eBd eBd_sz).enc l, (cI .i64).enc now, (cE (eA .u8 16)).enc home] (encPB (placeF l now home)) := by
  have hn := hl.n
  refine pure_intro (wd := 1) (Q := mkQ LM1) (by decide) tysOk (q_of LM1_ok) mixed Try.func11 rfl _ (by show 3 ≤ _; decide) _ ?_
  repeat' (first | (apply And.intro <;> intro hc <;> (first | exact Bool.noConfusion hc | (simp only [decide_eq_true_eq, decide_eq_false_iff_not, Bool.not_eq_true', Bool.not_eq_false', beq_iff_eq, beq_eq_false_iff_ne, bne_iff_ne, bne_eq_false_iff_eq, Bool.true_eq_false, Bool.false_eq_true, ne_eq, not_true_eq_false] at hc <;> first | exact absurd rfl hc | skip) | skip)) | (refine And.intro (by first | exact trivial | decide | omega | (dsimp only; omega) | exact fun _ _ => rfl | exact ⟨by assumption, by first | exact trivial | decide | omega | (dsimp only; omega)⟩) ?_) | (apply And.intro) | (intro s hs; (first | (have hs' : s = bvalid l := hs.trans (by show bvalid (toL eBd l.length (rowF eBd l)) = _; rw [toL_bd])) | (have hs' : s = vt now := hs)); clear hs; subst hs'))
  · show bdL (toL eBd l.length (rowF eBd l)); rw [toL_bd]; exact hl
  · have e : placeF l now home = (ip0, false) := by simp [placeF, *]
    rw [e]
    refine Done.mk (leF_tup ?_)
    repeat' (first | exact trivial | exact rfl | exact leC_int rfl | exact leC_bool rfl | refine leE_all ?_ | exact leC_bool (by assumption) | apply And.intro)
  · have e : placeF l now home = (ip0, false) := by simp [placeF, *]
    rw [e]
    refine Done.mk (leF_tup ?_)
    repeat' (first | exact trivial | exact rfl | exact leC_int rfl | exact leC_bool rfl | refine leE_all ?_ | exact leC_bool (by assumption) | apply And.intro)
  · have e : placeF l now home = findP now home l := by simp [placeF, *]
    rw [e]
    refine loop_intro (mono_of LM1_ok) (fun i : {i : Nat // i ≤ l.length ∧ findP now home l = findP now home (l.drop i)} => (⟨[(1, one (.int .i64 now)), (5, one (.ptr 0 0 0 false)), (6, one (.ptr 1 0 0 false)), (19, one (.sl false l.length eBd.sz (rowF eBd l))), (20, one (.int .i64 (l.length : Int))), (21, one (.int .i64 (i.1 : Int)))],
      [(0, some ⟨29, 1, 16, true, fun _ => (eA .u8 16).cell home⟩), (1, some ⟨29, 1, 16, true, fun _ _ => .top⟩)], 13⟩ : Hd)) (fun i => l.length - i.1) (fun _ => rfl) ?_ ⟨0, by omega, rfl⟩ [] ?_
    · rintro ⟨i, hi, hv⟩
      dsimp only at hi hv ⊢
      repeat' (first | (apply And.intro <;> intro hc <;> (first | exact Bool.noConfusion hc | (simp only [decide_eq_true_eq, decide_eq_false_iff_not, Bool.not_eq_true', Bool.not_eq_false', beq_iff_eq, beq_eq_false_iff_ne, bne_iff_ne, bne_eq_false_iff_eq, Bool.true_eq_false, Bool.false_eq_true] at hc) | skip)) | (refine And.intro (by first | exact trivial | decide | omega | (dsimp only; omega) | exact fun _ _ => rfl) ?_) | (apply And.intro) | (intro s hs))
      all_goals first
        | (have hlt : i < l.length := by omega
           have h1 : ipEq (l.getD i default).home home = true := by assumption
           have h2 : now < (l.getD i default).til := by assumption
           have e : findP now home l = ((l.getD i default).place, true) := by rw [hv, drop_at hlt, findP, if_pos ⟨h1, h2⟩]
           rw [e]
           refine Done.mk (leF_tup ?_)
           repeat' (first | exact trivial | exact rfl | exact leC_int rfl | exact leC_bool rfl | refine leE_all ?_ | exact leC_bool (by assumption) | apply And.intro))
        | (have hlt : i < l.length := by omega
           have h1 : ¬ (ipEq (l.getD i default).home home = true ∧ now < (l.getD i default).til) := by
             first
               | (have h1 : ipEq (l.getD i default).home home = false := by assumption
                  rw [h1]; simp)
               | (have h2 : ¬ now < (l.getD i default).til := by assumption
                  exact fun h => h2 h.2)
           refine ⟨⟨i + 1, by omega, ?_⟩, [], by dsimp only; omega, rfl, ?_, ?_⟩
           · rw [hv, drop_at hlt, findP, if_neg h1]
           · repeat' (first | exact trivial | exact rfl | exact leF_ptr rfl | exact leF_int rfl | exact leF_bool rfl | exact leF_cl (cl_slB _ _) | exact leF_cl (cl_slR _ _) | exact leF_cl (cl_ll _ _) | exact leF_c (leC_os rfl rfl) | refine leF_int ?_ | refine leF_bool ?_ | exact leN_varA (fun _ _ => (Elem.flat _ _ _).le) | exact leN_varA (fun _ _ => leC_top) | apply And.intro)
             first | (dsimp only; rw [IntWalk.i64_in _ (by omega)]; omega) | (dsimp only; rw [IntWalk.i64_in _ (by omega)]; done) | (dsimp only; exact IntWalk.i64_in _ (by omega)) | exact IntWalk.i64_in _ (by omega) | (rw [IntWalk.i64_in _ (by omega)]; omega)
           · repeat' (first | exact trivial | exact rfl | exact leF_ptr rfl | exact leF_int rfl | exact leF_bool rfl | exact leF_cl (cl_slB _ _) | exact leF_cl (cl_slR _ _) | exact leF_cl (cl_ll _ _) | exact leF_c (leC_os rfl rfl) | refine leF_int ?_ | refine leF_bool ?_ | exact leN_varA (fun _ _ => (Elem.flat _ _ _).le) | exact leN_varA (fun _ _ => leC_top) | apply And.intro))
        | (have hil : i = l.length := by omega
           have e : findP now home l = (ip0, false) := by rw [hv, hil, List.drop_length]; rfl
           rw [e]
           refine Done.mk (leF_tup ?_)
           repeat' (first | exact trivial | exact rfl | exact leC_int rfl | exact leC_bool rfl | refine leE_all ?_ | exact leC_bool (by assumption) | apply And.intro))
    · refine ⟨rfl, ?_, ?_⟩
      · repeat' (first | exact trivial | exact rfl | exact leF_ptr rfl | exact leF_int rfl | exact leF_bool rfl | exact leF_cl (cl_slB _ _) | exact leF_cl (cl_slR _ _) | exact leF_cl (cl_ll _ _) | exact leF_c (leC_os rfl rfl) | refine leF_int ?_ | refine leF_bool ?_ | exact leN_varA (fun _ _ => (Elem.flat _ _ _).le) | exact leN_varA (fun _ _ => leC_top) | apply And.intro)
      · repeat' (first | exact trivial | exact rfl | exact leF_ptr rfl | exact leF_int rfl | exact leF_bool rfl | exact leF_cl (cl_slB _ _) | exact leF_cl (cl_slR _ _) | exact leF_cl (cl_ll _ _) | exact leF_c (leC_os rfl rfl) | refine leF_int ?_ | refine leF_bool ?_ | exact leN_varA (fun _ _ => (Elem.flat _ _ _).le) | exact leN_varA (fun _ _ => leC_top) | apply And.intro)
end Go.Proofs.Yteacebocjafinaa.AX

/- Package mobility: Bind (by AX2). -/

namespace Go.Proofs.Yteacebocjafinaa.AX
open Go.RowKit
set_option linter.unusedVariables false
set_option linter.unusedSimpArgs false
def bindL (now : Int) (b : Bd) : Bool → List Bd → Option (List Bd)
  | placed, [] => some (if placed = true then [] else [b])
  | placed, d :: l =>
    if ipEq d.home b.home = true then (if b.seq ≤ d.seq then none else (bindL now b true l).map ([b] ++ ·))
    else if d.til ≤ now then bindL now b placed l
    else if placed = false ∧ ipC b.home d.home < 0 then (bindL now b true l).map ([b, d] ++ ·)
    else (bindL now b placed l).map ([d] ++ ·)
def minT (now life : Int) : Int := if 1099511627776 < now + life then 1099511627776 else now + life
def bindE (r : Option (List Bd)) : List Bd × Int :=
  match r with
  | none => ([], 16)
  | some out => if out.length ≤ 32 then (out, 0) else ([], 10)
def bindF (l : List Bd) (now : Int) (b : Bd) (life : Int) : List Bd × Int :=
  if bvalid l = true ∧ ipEq b.place b.home = false then
    if vt now = true ∧ sqOk b.seq = true ∧ 0 ≤ life ∧ life ≤ 60 then bindE (bindL now { b with til := minT now life } false l) else ([], 2)
  else ([], 1)
def encBE (r : List Bd × Int) : FV := .tup [.c (slR eBd r.1), .c (.int .i64 r.2)]
theorem map_app {o : Option (List Bd)} {a b : List Bd} : (o.map (b ++ ·)).map (a ++ ·) = o.map ((a ++ b) ++ ·) := by cases o <;> simp
theorem map_nil {o : Option (List Bd)} : o.map (([] : List Bd) ++ ·) = o := by cases o <;> simp
structure BdS (l : List Bd) (b : Bd) (now : Int) where
  i : Nat
  out : List Bd
  placed : Bool
  hi : i ≤ l.length
  hn : out.length ≤ 2 * i
  h : bindL now b false l = (bindL now b placed (l.drop i)).map (out ++ ·)
theorem bv_len {l : List Bd} (h : bvalid l = true) : l.length ≤ 32 := by
  unfold bvalid at h
  simp only [Bool.and_eq_true, decide_eq_true_eq] at h
  exact h.1
set_option maxHeartbeats 8000000 in
set_option maxRecDepth 20000 in
theorem bind_ok (l : List Bd) (now : Int) (b : Bd) (life : Int) (hl : bdL l) (hb : byteOk b.home) (hlife : -9223372036854775808 ≤ life ∧ life ≤ 9223372036854775807) : PureOk Try.prog 14 [(cSl eBd eBd_sz).enc l, (cI .i64).enc now, (cE eBd).enc b, (cI .i64).enc life] (encBE (bindF l now b life)) := by
  have hn := hl.n
  refine pure_intro (wd := 1) (Q := mkQ LM1) (by decide) tysOk (q_of LM1_ok) mixed Try.func14 rfl _ (by show 4 ≤ _; decide) _ ?_
  repeat' (first | (apply And.intro <;> intro hc <;> (first | exact Bool.noConfusion hc | (simp only [decide_eq_true_eq, decide_eq_false_iff_not, Bool.not_eq_true', Bool.not_eq_false', beq_iff_eq, beq_eq_false_iff_ne, bne_iff_ne, bne_eq_false_iff_eq, Bool.true_eq_false, Bool.false_eq_true, ne_eq, not_true_eq_false] at hc <;> first | exact absurd rfl hc | skip) | skip)) | (refine And.intro (by first | exact trivial | decide | omega | (dsimp only; omega) | exact fun _ _ => rfl | exact ⟨by assumption, by first | exact trivial | decide | omega | (dsimp only; omega)⟩) ?_) | (apply And.intro) | (intro s hs; (first | (have hs' : s = bvalid l := hs.trans (by show bvalid (toL eBd l.length (rowF eBd l)) = _; rw [toL_bd])) | (have hs' : s = vt now := hs) | (have hs' : s = sqOk b.seq := hs)); clear hs; subst hs'))
  all_goals first
    | (show bdL (toL eBd l.length (rowF eBd l)); rw [toL_bd]; exact hl)
    | (have e : bindF l now b life = ([], 1) := by
         first
           | (have h1 : bvalid l = false := by assumption
              simp [bindF, h1])
           | (have h1 : ipEq b.place b.home = true := by assumption
              simp [bindF, h1])
       rw [e]
       exact Done.mk (leF_tup ⟨leC_nils_sl rfl, leC_int rfl, trivial⟩))
    | (have e : bindF l now b life = ([], 2) := by
         have h0 : ipEq b.place b.home = false := by assumption
         have h1 : bvalid l = true := by assumption
         rw [bindF, if_pos ⟨h1, h0⟩, if_neg]
         rintro ⟨g1, g2, g3, g4⟩
         first
           | omega
           | (have q : vt now = false := by assumption
              rw [g1] at q; cases q)
           | (have q : sqOk b.seq = false := by assumption
              rw [g2] at q; cases q)
       rw [e]
       exact Done.mk (leF_tup ⟨leC_nils_sl rfl, leC_int rfl, trivial⟩))
    | skip
  have h0 : ipEq b.place b.home = false := by assumption
  have h1 : bvalid l = true := by assumption
  have h2 : vt now = true := by assumption
  have h3 : sqOk b.seq = true := by assumption
  have h4 : ¬ life < 0 := by assumption
  have h5 : ¬ 60 < life := by assumption
  have hvt : 0 ≤ now ∧ now ≤ 1099511627776 := by
    unfold vt at h2
    simp only [Bool.and_eq_true, decide_eq_true_eq] at h2
    exact h2
  have h32 := bv_len h1
  have e : bindF l now b life = bindE (bindL now { b with til := minT now life } false l) := by
    rw [bindF, if_pos ⟨h1, h0⟩, if_pos ⟨h2, h3, by omega, by omega⟩]
  rw [e]
  have et : (if 1099511627776 < IntKind.i64.wrap (now + life) then 1099511627776 else IntKind.i64.wrap (now + life)) = minT now life := by
    rw [IntWalk.i64_in _ (by omega)]; rfl
  generalize hb' : ({ b with til := minT now life } : Bd) = b'
  have b1 : b'.home = b.home := by rw [← hb']
  have hb2 : byteOk b'.home := by rw [b1]; exact hb
  clear h0 h1 h2 h3
  refine loop_intro (mono_of LM1_ok) (fun s : BdS l b' now => (⟨[(0, one (.sl false l.length eBd.sz (rowF eBd l))), (1, one (.int .i64 now)), (6, one (.ptr 0 0 0 false)), (10, one (.os 7 0 s.out.length)), (11, one (.bool s.placed)), (46, one (.sl false l.length eBd.sz (rowF eBd l))), (47, one (.int .i64 (l.length : Int))), (48, one (.int .i64 (s.i : Int)))],
    [(0, some ⟨40, 1, 34, true, fun _ => eBd.cell b'⟩), (7, some (ents eBd 40 s.out))], 45⟩ : Hd)) (fun s => l.length - s.i) (fun _ => rfl) ?_ ⟨0, [], false, by omega, by simp, map_nil.symm⟩ [(7, none)] ?_
  · rintro ⟨i, out, placed, hi, hno, hv⟩
    dsimp only at hi hno hv ⊢
    clear et hb' b1 e
    repeat' (first | (apply And.intro <;> intro hc <;> (first | exact Bool.noConfusion hc | (simp only [decide_eq_true_eq, decide_eq_false_iff_not, Bool.not_eq_true', Bool.not_eq_false', beq_iff_eq, beq_eq_false_iff_ne, bne_iff_ne, bne_eq_false_iff_eq, Bool.true_eq_false, Bool.false_eq_true] at hc) | skip)) | (refine And.intro (by first | exact trivial | decide | omega | (dsimp only; omega) | exact fun _ _ => rfl) ?_) | (apply And.intro) | (intro s hs))
    all_goals first
      | exact home_ok (s := s) (by omega) (by omega)
      | (dsimp only; refine byL_home hb2 (fun k hk => ?_); exact home_cell (by omega) hk)
      | (dsimp only; refine byL_home (hl.b _ (memB (show i < l.length by omega))).1 (fun k hk => ?_); exact home_cell (by omega) hk)
      | (have hlt : i < l.length := by omega
         have hE : ipEq (l.getD i default).home b'.home = true := by assumption
         first
           | (have hG : b'.seq ≤ (l.getD i default).seq := by assumption
              have e : bindL now b' false l = none := by rw [hv, drop_at hlt, bindL, if_pos hE, if_pos hG]; rfl
              rw [e]
              exact Done.mk (leF_tup ⟨leC_nils_sl rfl, leC_int rfl, trivial⟩))
           | (have hG : ¬ b'.seq ≤ (l.getD i default).seq := by assumption
              refine ⟨⟨i + 1, out ++ [b'], true, by omega, by simp; omega, ?_⟩, [(7, some 63)], by dsimp only; omega, rfl, ?_, ?_⟩
              · rw [hv, drop_at hlt, bindL, if_pos hE, if_neg hG, map_app]
              · repeat' (first | exact trivial | exact rfl | exact leF_ptr rfl | exact leF_int rfl | exact leF_bool rfl | exact leF_cl (cl_slB _ _) | exact leF_cl (cl_slR _ _) | exact leF_cl (cl_ll _ _) | exact leF_c (leC_os rfl rfl) | refine leF_int ?_ | refine leF_bool ?_ | exact leN_varA (fun _ _ => (Elem.flat _ _ _).le) | exact leN_varA (fun _ _ => leC_top) | apply And.intro)
                · exact leF_c (leC_os rfl (by simp))
                · first | (dsimp only; rw [IntWalk.i64_in _ (by omega)]; omega) | (dsimp only; rw [IntWalk.i64_in _ (by omega)]; done) | (dsimp only; exact IntWalk.i64_in _ (by omega)) | exact IntWalk.i64_in _ (by omega) | (rw [IntWalk.i64_in _ (by omega)]; omega)
              · repeat' (first | exact trivial | exact rfl | exact leF_ptr rfl | exact leF_int rfl | exact leF_bool rfl | exact leF_cl (cl_slB _ _) | exact leF_cl (cl_slR _ _) | exact leF_cl (cl_ll _ _) | exact leF_c (leC_os rfl rfl) | refine leF_int ?_ | refine leF_bool ?_ | exact leN_varA (fun _ _ => (Elem.flat _ _ _).le) | exact leN_varA (fun _ _ => leC_top) | apply And.intro)
                (change LeN _ _ _; refine leN_snoc (E := eBd) (L := out) (x := b') rfl (fun i hi j hj => selC_in (Nat.ble_eq_true_of_le hi) (Elem.flat _ _ _).le) ?_; repeat' (first | exact trivial | (refine selC_out (blt_self _) ?_; rw [Nat.sub_self]; first | exact leC_int rfl | exact leC_bool rfl | exact leC_bool (by assumption)) | apply And.intro))))
      | (have hlt : i < l.length := by omega
         have hE : ¬ ipEq (l.getD i default).home b'.home = true := by
           have q : ipEq (l.getD i default).home b'.home = false := by assumption
           rw [q]; decide
         first
           | (have hT : (l.getD i default).til ≤ now := by assumption
              refine ⟨⟨i + 1, out, placed, by omega, by omega, ?_⟩, [], by dsimp only; omega, rfl, ?_, ?_⟩
              · rw [hv, drop_at hlt, bindL, if_neg hE, if_pos hT]
              · repeat' (first | exact trivial | exact rfl | exact leF_ptr rfl | exact leF_int rfl | exact leF_bool rfl | exact leF_cl (cl_slB _ _) | exact leF_cl (cl_slR _ _) | exact leF_cl (cl_ll _ _) | exact leF_c (leC_os rfl rfl) | refine leF_int ?_ | refine leF_bool ?_ | exact leN_varA (fun _ _ => (Elem.flat _ _ _).le) | exact leN_varA (fun _ _ => leC_top) | apply And.intro)
                first | (dsimp only; rw [IntWalk.i64_in _ (by omega)]; omega) | (dsimp only; rw [IntWalk.i64_in _ (by omega)]; done) | (dsimp only; exact IntWalk.i64_in _ (by omega)) | exact IntWalk.i64_in _ (by omega) | (rw [IntWalk.i64_in _ (by omega)]; omega)
              · repeat' (first | exact trivial | exact rfl | exact leF_ptr rfl | exact leF_int rfl | exact leF_bool rfl | exact leF_cl (cl_slB _ _) | exact leF_cl (cl_slR _ _) | exact leF_cl (cl_ll _ _) | exact leF_c (leC_os rfl rfl) | refine leF_int ?_ | refine leF_bool ?_ | exact leN_varA (fun _ _ => (Elem.flat _ _ _).le) | exact leN_varA (fun _ _ => leC_top) | apply And.intro)
                exact leN_ents)
           | (have hT : ¬ (l.getD i default).til ≤ now := by assumption
              first
                | (have hP : placed = false := by assumption
                   have q : s = ipC b'.home (l.getD i default).home := by rw [hs]; dsimp only; refine cmp_home (fun k hk => ?_) (fun k hk => ?_) <;> exact home_cell (by omega) hk
                   first
                     | (have hC : s < 0 := by assumption
                        refine ⟨⟨i + 1, out ++ [b', l.getD i default], true, by omega, by simp; omega, ?_⟩, [(7, some 78)], by dsimp only; omega, rfl, ?_, ?_⟩
                        · rw [hv, drop_at hlt, bindL, if_neg hE, if_neg hT, if_pos ⟨hP, by omega⟩, map_app]
                        · repeat' (first | exact trivial | exact rfl | exact leF_ptr rfl | exact leF_int rfl | exact leF_bool rfl | exact leF_cl (cl_slB _ _) | exact leF_cl (cl_slR _ _) | exact leF_cl (cl_ll _ _) | exact leF_c (leC_os rfl rfl) | refine leF_int ?_ | refine leF_bool ?_ | exact leN_varA (fun _ _ => (Elem.flat _ _ _).le) | exact leN_varA (fun _ _ => leC_top) | apply And.intro)
                          · exact leF_c (leC_os rfl (by simp))
                          · first | (dsimp only; rw [IntWalk.i64_in _ (by omega)]; omega) | (dsimp only; rw [IntWalk.i64_in _ (by omega)]; done) | (dsimp only; exact IntWalk.i64_in _ (by omega)) | exact IntWalk.i64_in _ (by omega) | (rw [IntWalk.i64_in _ (by omega)]; omega)
                        · repeat' (first | exact trivial | exact rfl | exact leF_ptr rfl | exact leF_int rfl | exact leF_bool rfl | exact leF_cl (cl_slB _ _) | exact leF_cl (cl_slR _ _) | exact leF_cl (cl_ll _ _) | exact leF_c (leC_os rfl rfl) | refine leF_int ?_ | refine leF_bool ?_ | exact leN_varA (fun _ _ => (Elem.flat _ _ _).le) | exact leN_varA (fun _ _ => leC_top) | apply And.intro)
                          change LeN _ _ _
                          refine leN_snoc2 (E := eBd) (L := out) (x := b') (y := l.getD i default) rfl (fun q hq j hj => selC_in (blt_lt (by omega)) (selC_in (blt_lt hq) (Elem.flat _ _ _).le)) ?_ ?_
                          · repeat' (first | exact trivial | (refine selC_in (blt_lt (by omega)) (selC_out (blt_self _) ?_); rw [Nat.sub_self]; exact leC_int rfl) | apply And.intro)
                          · repeat' (first | exact trivial | (refine selC_out (blt_self _) ?_; rw [Nat.sub_self]; exact leC_int rfl) | apply And.intro))
                     | (have hC : ¬ s < 0 := by assumption
                        refine ⟨⟨i + 1, out ++ [l.getD i default], placed, by omega, by simp; omega, ?_⟩, [(7, some 72)], by dsimp only; omega, rfl, ?_, ?_⟩
                        · rw [hv, drop_at hlt, bindL, if_neg hE, if_neg hT, if_neg (fun h => hC (by omega)), map_app]
                        · repeat' (first | exact trivial | exact rfl | exact leF_ptr rfl | exact leF_int rfl | exact leF_bool rfl | exact leF_cl (cl_slB _ _) | exact leF_cl (cl_slR _ _) | exact leF_cl (cl_ll _ _) | exact leF_c (leC_os rfl rfl) | refine leF_int ?_ | refine leF_bool ?_ | exact leN_varA (fun _ _ => (Elem.flat _ _ _).le) | exact leN_varA (fun _ _ => leC_top) | apply And.intro)
                          · exact leF_c (leC_os rfl (by simp))
                          · first | (dsimp only; rw [IntWalk.i64_in _ (by omega)]; omega) | (dsimp only; rw [IntWalk.i64_in _ (by omega)]; done) | (dsimp only; exact IntWalk.i64_in _ (by omega)) | exact IntWalk.i64_in _ (by omega) | (rw [IntWalk.i64_in _ (by omega)]; omega)
                        · repeat' (first | exact trivial | exact rfl | exact leF_ptr rfl | exact leF_int rfl | exact leF_bool rfl | exact leF_cl (cl_slB _ _) | exact leF_cl (cl_slR _ _) | exact leF_cl (cl_ll _ _) | exact leF_c (leC_os rfl rfl) | refine leF_int ?_ | refine leF_bool ?_ | exact leN_varA (fun _ _ => (Elem.flat _ _ _).le) | exact leN_varA (fun _ _ => leC_top) | apply And.intro)
                          (change LeN _ _ _; refine leN_snoc (E := eBd) (L := out) (x := l.getD i default) rfl (fun i hi j hj => selC_in (Nat.ble_eq_true_of_le hi) (Elem.flat _ _ _).le) ?_; repeat' (first | exact trivial | (refine selC_out (blt_self _) ?_; rw [Nat.sub_self]; first | exact leC_int rfl | exact leC_bool rfl | exact leC_bool (by assumption)) | apply And.intro))))
                | (have hP : placed = true := by assumption
                   refine ⟨⟨i + 1, out ++ [l.getD i default], placed, by omega, by simp; omega, ?_⟩, [(7, some 72)], by dsimp only; omega, rfl, ?_, ?_⟩
                   · rw [hv, drop_at hlt, bindL, if_neg hE, if_neg hT, if_neg (fun h => by rw [hP] at h; cases h.1), map_app]
                   · repeat' (first | exact trivial | exact rfl | exact leF_ptr rfl | exact leF_int rfl | exact leF_bool rfl | exact leF_cl (cl_slB _ _) | exact leF_cl (cl_slR _ _) | exact leF_cl (cl_ll _ _) | exact leF_c (leC_os rfl rfl) | refine leF_int ?_ | refine leF_bool ?_ | exact leN_varA (fun _ _ => (Elem.flat _ _ _).le) | exact leN_varA (fun _ _ => leC_top) | apply And.intro)
                     · exact leF_c (leC_os rfl (by simp))
                     · first | (dsimp only; rw [IntWalk.i64_in _ (by omega)]; omega) | (dsimp only; rw [IntWalk.i64_in _ (by omega)]; done) | (dsimp only; exact IntWalk.i64_in _ (by omega)) | exact IntWalk.i64_in _ (by omega) | (rw [IntWalk.i64_in _ (by omega)]; omega)
                   · repeat' (first | exact trivial | exact rfl | exact leF_ptr rfl | exact leF_int rfl | exact leF_bool rfl | exact leF_cl (cl_slB _ _) | exact leF_cl (cl_slR _ _) | exact leF_cl (cl_ll _ _) | exact leF_c (leC_os rfl rfl) | refine leF_int ?_ | refine leF_bool ?_ | exact leN_varA (fun _ _ => (Elem.flat _ _ _).le) | exact leN_varA (fun _ _ => leC_top) | apply And.intro)
                     (change LeN _ _ _; refine leN_snoc (E := eBd) (L := out) (x := l.getD i default) rfl (fun i hi j hj => selC_in (Nat.ble_eq_true_of_le hi) (Elem.flat _ _ _).le) ?_; repeat' (first | exact trivial | (refine selC_out (blt_self _) ?_; rw [Nat.sub_self]; first | exact leC_int rfl | exact leC_bool rfl | exact leC_bool (by assumption)) | apply And.intro)))))
      | (have hil : i = l.length := by omega
         first
           | (have hP : placed = false := by assumption
              have e : bindL now b' false l = some (out ++ [b']) := by rw [hv, hil, List.drop_length, bindL, hP]; rfl
              rw [e]
              first
                | (have hF : (32 : Int) < ((out.length + 1 : Nat) : Int) := by assumption
                   rw [show bindE (some (out ++ [b'])) = ([], 10) from if_neg (by simp; omega)]
                   exact Done.mk (leF_tup ⟨leC_nils_sl rfl, leC_int rfl, trivial⟩))
                | (have hF : ¬ (32 : Int) < ((out.length + 1 : Nat) : Int) := by assumption
                   rw [show bindE (some (out ++ [b'])) = (out ++ [b'], 0) from if_pos (by simp; omega)]
                   refine Done.mk (leF_tup ⟨leC_fin (t := 40) rfl rfl (by simp) ?_, leC_int rfl, trivial⟩)
                   (change LeN _ _ _; refine leN_snoc (E := eBd) (L := out) (x := b') rfl (fun i hi j hj => selC_in (Nat.ble_eq_true_of_le hi) (Elem.flat _ _ _).le) ?_; repeat' (first | exact trivial | (refine selC_out (blt_self _) ?_; rw [Nat.sub_self]; first | exact leC_int rfl | exact leC_bool rfl | exact leC_bool (by assumption)) | apply And.intro))))
           | (have hP : placed = true := by assumption
              have e : bindL now b' false l = some out := by rw [hv, hil, List.drop_length, bindL, hP]; simp
              rw [e]
              first
                | (have hF : (32 : Int) < (out.length : Int) := by assumption
                   rw [show bindE (some out) = ([], 10) from if_neg (by omega)]
                   exact Done.mk (leF_tup ⟨leC_nils_sl rfl, leC_int rfl, trivial⟩))
                | (have hF : ¬ (32 : Int) < (out.length : Int) := by assumption
                   rw [show bindE (some out) = (out, 0) from if_pos (by omega)]
                   exact Done.mk (leF_tup ⟨leC_row_fin rfl rfl, leC_int rfl, trivial⟩))))
  · refine ⟨rfl, ?_, ?_⟩
    · repeat' (first | exact trivial | exact rfl | exact leF_ptr rfl | exact leF_int rfl | exact leF_bool rfl | exact leF_cl (cl_slB _ _) | exact leF_cl (cl_slR _ _) | exact leF_cl (cl_ll _ _) | exact leF_c (leC_os rfl rfl) | refine leF_int ?_ | refine leF_bool ?_ | exact leN_varA (fun _ _ => (Elem.flat _ _ _).le) | exact leN_varA (fun _ _ => leC_top) | apply And.intro)
      exact leF_c (leC_nils_os rfl)
    · repeat' (first | exact trivial | exact rfl | exact leF_ptr rfl | exact leF_int rfl | exact leF_bool rfl | exact leF_cl (cl_slB _ _) | exact leF_cl (cl_slR _ _) | exact leF_cl (cl_ll _ _) | exact leF_c (leC_os rfl rfl) | refine leF_int ?_ | refine leF_bool ?_ | exact leN_varA (fun _ _ => (Elem.flat _ _ _).le) | exact leN_varA (fun _ _ => leC_top) | apply And.intro)
      · subst hb'
        refine leN_var ?_
        repeat' (first | exact trivial | exact leC_int rfl | exact leC_int et | apply And.intro)
      · exact eBd_sz
end Go.Proofs.Yteacebocjafinaa.AX

/- The reference of layer 4: contracts of bit, Common, ValidPrefix, Contains, Mask, Of. -/
namespace Go.Proofs.Yteacebocjafinaa.AX
open Go.RowKit
set_option linter.unusedVariables false
set_option linter.unusedSimpArgs false
theorem bit_rd (a : Fin 16 → Int) (n : Nat) : bitF ((eA .u8 16).rd fun q => (eA .u8 16).cell a (0 + q)) ((n : Int)).toNat = bitF a n := by
  rw [Int.toNat_natCast, rd_ip]
def LR0 : CsL := []
theorem LR0_ok : AllOk Try.prog LR0 := trivial
theorem bit_rdP (p : Pfx) (n : Nat) : bitF ((eA .u8 16).rd fun q => ePfx.cell p (0 + 0 + q)) ((n : Int)).toNat = bitF p.ip n := by
  rw [Int.toNat_natCast]
  have := ePfx_ip p
  simp only [Nat.zero_add] at this ⊢
  exact congrArg (bitF · n) this
theorem maskB_ne {a : Fin 16 → Int} {i j : Nat} (h : j ≠ i / 8) : maskB a ((i + 1 : Nat) : Int) j = maskB a (i : Int) j := by
  unfold maskB
  have : keepAt ((i + 1 : Nat) : Int) j = keepAt (i : Int) j := by
    unfold keepAt clampI
    (repeat' split) <;> omega
  rw [this]
theorem maskB_at {a : Fin 16 → Int} (ha : byteOk a) (i : Nat) : bits .or .u8 (maskB a (i : Int) (i / 8)) (shlI .u8 (bitF a i) (7 - ((i % 8 : Nat) : Int))) = maskB a ((i + 1 : Nat) : Int) (i / 8) := by
  obtain ⟨x, hx⟩ := byte_nat (ha.v (i / 8))
  have h := byt_step x ⟨i % 8, by omega⟩
  have k1 : keepAt (i : Int) (i / 8) = ((i % 8 : Nat) : Int) := by
    unfold keepAt clampI; split <;> split <;> omega
  have k2 : keepAt ((i + 1 : Nat) : Int) (i / 8) = ((i % 8 : Nat) : Int) + 1 := by
    unfold keepAt clampI; split <;> split <;> omega
  unfold maskB bitF
  rw [k1, k2, hx]
  exact h
theorem rm_step {a : Fin 16 → Int} {i off j : Nat} {V : Int} (ho : off = i / 8) (hV : V = maskB a ((i + 1 : Nat) : Int) (i / 8)) : (bif Nat.ble off j && Nat.blt j (off + 1) then V else maskB a (i : Int) j) = maskB a ((i + 1 : Nat) : Int) j := by
  by_cases h : j = i / 8
  · rw [rng_in (by omega), cond_true, hV, h]
  · rw [rng_out (by omega), cond_false, maskB_ne h]
theorem maskB_zero {a : Fin 16 → Int} (ha : byteOk a) (j : Nat) : maskB a ((0 : Nat) : Int) j = 0 := by
  obtain ⟨x, hx⟩ := byte_nat (ha.v j)
  unfold maskB
  rw [hx, show keepAt ((0 : Nat) : Int) j = 0 by unfold keepAt clampI; split <;> split <;> omega]
  exact byt_zero x
def LR1 : CsL := LR0
theorem LR1_ok : AllOk Try.prog LR1 := LR0_ok
theorem rd_pfx (p : Pfx) : ePfx.rd (fun q => ePfx.cell p (0 + q)) = p := by
  simp only [Nat.zero_add]; exact ePfx_rd p
/-! ### Of -/
def ofB (x y : Int) (j : Nat) : Int := IntKind.u8.wrap (shrI .u64 (bif Nat.blt j 8 then x else y) (56 - 8 * ((j % 8 : Nat) : Int)))
def ofF (x y : Int) : Fin 16 → Int := fun q => ofB x y q.1
theorem of_byteOk (x y : Int) : byteOk (ofF x y) := by
  refine ⟨fun q => ?_⟩
  have h : ∀ z, 0 ≤ IntKind.u8.wrap z ∧ IntKind.u8.wrap z < 256 := fun z => by
    simp only [IntKind.wrap, IntKind.signed, IntKind.bits]
    constructor
    · exact Int.emod_nonneg _ (by decide)
    · exact Int.emod_lt_of_pos _ (by decide)
  exact h _
theorem of_step {x y v1 v2 : Int} {i off1 off2 j : Nat} (h1 : off1 = i) (h2 : off2 = 8 + i) (hi : i < 8) (hj : j < 16) (e1 : v1 = ofB x y i) (e2 : v2 = ofB x y (8 + i)) :
    (bif Nat.ble off2 j && Nat.blt j (off2 + 1) then v2 else (bif Nat.ble off1 j && Nat.blt j (off1 + 1) then v1 else if j % 8 < i then ofB x y j else 0)) = if j % 8 < i + 1 then ofB x y j else 0 := by
  by_cases a : j = 8 + i
  · rw [rng_in (by omega), cond_true, e2, if_pos (by omega), a]
  · rw [rng_out (by omega), cond_false]
    by_cases b : j = i
    · rw [rng_in (by omega), cond_true, e1, if_pos (by omega), b]
    · rw [rng_out (by omega), cond_false]
      by_cases c : j % 8 < i
      · rw [if_pos c, if_pos (by omega)]
      · rw [if_neg c, if_neg (by omega)]
def LR2 : CsL := LR1
theorem LR2_ok : AllOk Try.prog LR2 := LR1_ok
end Go.Proofs.Yteacebocjafinaa.AX

/- What the makers draw from a tape: prefixes, contexts, devices, addresses. -/
namespace Go.Proofs.Yteacebocjafinaa.AX
open Go.RowKit
set_option linter.unusedVariables false
set_option linter.unusedSimpArgs false
structure Adr where
  mode : Int
  short : Int
  eui : Int
def eAdrC (x : Adr) (j : Nat) : CV := bif Nat.beq j 0 then .int .i64 x.mode else bif Nat.beq j 1 then .int .u16 x.short else (.int .u64 x.eui)
def eAdr : Elem Adr where
  sz := 3
  cell := eAdrC
  rd g := ⟨valI (g 0), valI (g 1), valI (g 2)⟩
  ok g := isK .i64 (g 0) && isK .u16 (g 1) && isK .u64 (g 2)
  ok_eq g h j hj := by
    simp only [Bool.and_eq_true] at h
    unfold eAdrC
    by_cases c0 : j < 1
    · have e : j = 0 := by omega
      subst e
      exact isK_eq h.1.1
    by_cases c1 : j < 2
    · have e : j = 1 := by omega
      subst e
      exact isK_eq h.1.2
    by_cases c2 : j < 3
    · have e : j = 2 := by omega
      subst e
      exact isK_eq h.2
    omega
  flat a j := by
    unfold eAdrC
    cases Nat.beq j 0 with
    | true => exact flat_int
    | false =>
    cases Nat.beq j 1 with
    | true => exact flat_int
    | false =>
    exact flat_int
theorem eAdr_sz : 0 < eAdr.sz := by decide
theorem eAdr_rd (x : Adr) : eAdr.rd (eAdr.cell x) = x := by
  show (⟨x.mode, x.short, x.eui⟩ : Adr) = x
  rfl
theorem eAdr_ok (x : Adr) : eAdr.ok (eAdr.cell x) = true := rfl
theorem rd_adr (x : Adr) : eAdr.rd (fun q => eAdr.cell x (0 + q)) = x := by
  simp only [Nat.zero_add]; exact eAdr_rd x
abbrev wordE : Entry := tapeE AC.nil (fun _ => True) (fun a (r : Int) => True) (cI .u64).enc
def LT1 : CsL := (21, some boolE) :: (LT0 ++ LR2)
theorem LT1_ok : AllOk Try.prog LT1 := ⟨tapeE_ok ⟨_, Try.func21, rfl, by kernel_rfl⟩ fun n l q a ht hp => bool_ok n l q a.1 ht hp.1 hp.2, append_ok LT0_ok LR2_ok⟩
def adrValid (a : Adr) : Bool := if a.mode = 0 then (a.short == 0) && (a.eui == 0) else if a.mode = 2 then (a.eui == 0) else if a.mode = 3 then (a.short == 0) else false
def adrSome (a : Adr) : Bool := adrValid a && (a.mode != 0)
def LA0 : CsL := []
theorem LA0_ok : AllOk Try.prog LA0 := trivial
def iidF (a : Adr) : Int × Bool := if adrSome a = true then (if a.mode = 3 then (bits .xor .u64 a.eui 144115188075855872, true) else (IntKind.u64.wrap (1099478073344 + IntKind.u64.wrap a.short), true)) else (0, false)
def encIB (r : Int × Bool) : FV := .tup [.c (.int .u64 r.1), .c (.bool r.2)]
def LA1 : CsL := LA0
theorem LA1_ok : AllOk Try.prog LA1 := LA0_ok
def setV (a : Fin 16 → Int) (i : Nat) (v : Int) : Fin 16 → Int := fun q => if q.1 = i then v else a q
theorem setV_ok {a : Fin 16 → Int} {i : Nat} {v : Int} (ha : byteOk a) (hv : 0 ≤ v ∧ v < 256) : byteOk (setV a i v) := ⟨fun q => by
  unfold setV
  split
  · exact hv
  · exact ha.q q⟩
theorem setV_at {a : Fin 16 → Int} {i off j : Nat} {v : Int} (h : off = i) (hj : j < 16) : (bif Nat.ble off j && Nat.blt j (off + 1) then v else vget a j) = vget (setV a i v) j := by
  rw [vget_lt _ hj, vget_lt _ hj]
  unfold setV
  by_cases e : j = i
  · rw [rng_in (by omega), cond_true, if_pos e]
  · rw [rng_out (by omega), cond_false, if_neg e]
theorem u8r (z : Int) : 0 ≤ IntKind.u8.wrap z ∧ IntKind.u8.wrap z < 256 := by
  simp only [IntKind.wrap, IntKind.signed, IntKind.bits]
  constructor
  · exact Int.emod_nonneg _ (by decide)
  · exact Int.emod_lt_of_pos _ (by decide)
structure GrpS (n : Nat) (l : List Int) where
  i : Nat
  a : Fin 16 → Int
  q : Int
  hi : i ≤ 15
  ha : byteOk a
  ht : TapeOk n (rI l) q
abbrev pfxE : Entry := tapeE AC.nil (fun _ => True) (fun a (r : Pfx) => vpf r = true ∧ byteOk r.ip) (cE ePfx).enc
abbrev devE : Entry := tapeE AC.nil (fun _ => True) (fun a (r : Adr) => True) (cE eAdr).enc
abbrev grpE : Entry := tapeE AC.nil (fun _ => True) (fun a (r : Fin 16 → Int) => byteOk r) (cE (eA .u8 16)).enc
def LT2a : CsL := []
theorem LT2a_ok : AllOk Try.prog LT2a := trivial
def LT2 : CsL := LT2a ++ LT1
theorem LT2_ok : AllOk Try.prog LT2 := append_ok LT2a_ok LT1_ok
end Go.Proofs.Yteacebocjafinaa.AX

/- multihopworld.IP (by AX2). -/
namespace Go.Proofs.Yteacebocjafinaa.AX
open Go.RowKit
set_option linter.unusedVariables false
set_option linter.unusedSimpArgs false
def wipA (x y z : Int) : Fin 16 → Int := fun q => if q.1 = 0 then 32 else if q.1 = 1 then 1 else if q.1 = 2 then 13 else if q.1 = 3 then 184 else if q.1 = 5 then x else if q.1 = 6 then y else if q.1 = 15 then z else 0
theorem wipA_ok {x y z : Int} (hx : 0 ≤ x ∧ x < 256) (hy : 0 ≤ y ∧ y < 256) (hz : 0 ≤ z ∧ z < 256) : byteOk (wipA x y z) := ⟨fun q => by
  unfold wipA
  repeat' split
  all_goals omega⟩
theorem wip_prop {x y z v : Int} {i : Nat} : vget (setV (wipA x y z) i v) 2 = 13 ∨ vget (setV (wipA x y z) i v) 3 = 184 := by
  rw [vget_lt _ (show 2 < 16 by omega), vget_lt _ (show 3 < 16 by omega)]
  by_cases h : i = 2
  · right; simp [setV, wipA, h]
  · left; simp only [setV]; rw [if_neg (show ¬ (2 : Nat) = i by omega)]; simp [wipA]
theorem rng_bif {b : Bool} {x y : Int} (hx : 0 ≤ x ∧ x < 256) (hy : 0 ≤ y ∧ y < 256) : 0 ≤ (bif b then x else y) ∧ (bif b then x else y) < 256 := by cases b <;> assumption
theorem byteOk_rd {g : Nat → CV} (h : allLt 16 fun j => 0 ≤ valI (g j) ∧ valI (g j) < 256) : byteOk ((eA .u8 16).rd g) := ⟨fun q => allLt_at h q.1 q.2⟩
theorem fin_rd {H : Hp} {g : Nat → CV} {S : (Fin 16 → Int) → Prop} {n : Nat} {l : List Int} {q' : Int} (hok : (eA .u8 16).ok g = true) (hS : S ((eA .u8 16).rd g)) (ht : TapeOk n (rI l) q') (hH : hget H 0 = some (tapeN n (rI l) q')) :
    ∃ r : (Fin 16 → Int) × Int, (S r.1 ∧ TapeOk n (rI l) r.2) ∧ FinM ((cE (eA .u8 16)).enc r.1) (tapeN n (rI l) r.2) (.e (.agg 16 g)) H := by
  refine ⟨((eA .u8 16).rd g, q'), ⟨hS, ht⟩, ⟨leF_e (leE_rd (E := eA .u8 16) hok), ?_⟩⟩
  unfold WkE
  simp only [hH]
  exact tapeN_le
set_option maxHeartbeats 4000000 in
set_option maxRecDepth 10000 in
theorem wip_ok (n : Nat) (l : List Int) (q : Int) (ht : TapeOk n (rI l) q) :
    ∃ (r : Fin 16 → Int) (q' : Int), (byteOk r ∧ (vget r 2 = 13 ∨ vget r 3 = 184)) ∧ TapeOk n (rI l) q' ∧ MethOk Try.prog 20 [] (tapeN n (rI l) q) ((cE (eA .u8 16)).enc r) (tapeN n (rI l) q') := by
  refine tape_intro (wd := 1) (Q := mkQ LT1) (by decide) tysOk (q_of LT1_ok) mixed Try.func20 rfl _ (by show 0 + 1 ≤ _; decide) (nff_elem (eA .u8 16)) ?_
  repeat' (first | (apply And.intro <;> intro hc <;> (first | exact Bool.noConfusion hc | (simp only [decide_eq_true_eq, decide_eq_false_iff_not, Bool.not_eq_true', Bool.not_eq_false', beq_iff_eq, beq_eq_false_iff_ne, bne_iff_ne, bne_eq_false_iff_eq, Bool.true_eq_false, Bool.false_eq_true] at hc) | skip)) | (refine And.intro (by first | exact trivial | decide | omega | (dsimp only; omega) | exact fun _ _ => rfl | exact ⟨by assumption, by first | exact trivial | decide | omega | (dsimp only; omega)⟩) ?_) | (apply And.intro) | (intro s hs))
  · rename_i s4 h4
    have h4' : 0 ≤ s4 ∧ s4 < 16 := h4
    show 1 ≤ 16 - (0 + s4.toNat * 1)
    omega
  · rename_i s4 h4 q5 hq5 s5 h5
    have h5' : 0 ≤ s5 ∧ s5 < 8 := h5
    rw [IntWalk.u64_in _ (by omega)]
    omega
  · rename_i s4 h4 q5 hq5 s5 h5
    have h4' : 0 ≤ s4 ∧ s4 < 16 := h4
    show 0 + s4.toNat * 1 + 1 ≤ 16
    omega
  · rename_i s1 h1 q1 hq1 s2 h2 q2 hq2 s3 h3 q3 hq3 sb hb q4 hq4 s4 h4 q5 hq5 s5 h5
    refine fin_rd (S := fun r => byteOk r ∧ (vget r 2 = 13 ∨ vget r 3 = 184)) rfl (And.intro (byteOk_rd ?_) ?_) (by assumption) rfl
    · repeat' (first | exact trivial | exact rng_bif (u8r _) (show 0 ≤ (0 : Int) ∧ (0 : Int) < 256 by decide) | exact rng_bif (u8r _) (show 0 ≤ (32 : Int) ∧ (32 : Int) < 256 by decide) | exact rng_bif (u8r _) (show 0 ≤ (1 : Int) ∧ (1 : Int) < 256 by decide) | exact rng_bif (u8r _) (show 0 ≤ (13 : Int) ∧ (13 : Int) < 256 by decide) | exact rng_bif (u8r _) (show 0 ≤ (184 : Int) ∧ (184 : Int) < 256 by decide) | exact rng_bif (u8r _) (u8r _) | apply And.intro)
    · show (bif Nat.ble (0 + s4.toNat * 1) 2 && Nat.blt 2 (0 + s4.toNat * 1 + 1) then _ else (13 : Int)) = 13 ∨ (bif Nat.ble (0 + s4.toNat * 1) 3 && Nat.blt 3 (0 + s4.toNat * 1 + 1) then _ else (184 : Int)) = 184
      by_cases h : s4.toNat = 2
      · right; rw [rng_out (by omega)]; rfl
      · left; rw [rng_out (by omega)]; rfl
  · rename_i s1 h1 q1 hq1 s2 h2 q2 hq2 s3 h3 q3 hq3 sb hb
    refine ⟨(wipA (IntKind.u8.wrap s1) (IntKind.u8.wrap s2) (IntKind.u8.wrap s3), _), ⟨⟨wipA_ok (u8r _) (u8r _) (u8r _), .inl rfl⟩, by assumption⟩, ⟨leF_e (leE_all ?_), tapeN_le⟩⟩
    repeat' (first | exact trivial | exact leC_int rfl | apply And.intro)
abbrev wipE : Entry := tapeE AC.nil (fun _ => True) (fun a (r : Fin 16 → Int) => byteOk r ∧ (vget r 2 = 13 ∨ vget r 3 = 184)) (cE (eA .u8 16)).enc
end Go.Proofs.Yteacebocjafinaa.AX

/- The laws of layer 36: contracts, known (by AX2). -/

namespace Go.Proofs.Yteacebocjafinaa.AX
open Go.RowKit
set_option linter.unusedVariables false
set_option linter.unusedSimpArgs false
def LM2 : CsL := (14, some (pureE (AC.cons (cSl eBd eBd_sz) (AC.cons (cI .i64) (AC.cons (cE eBd) (AC.cons (cI .i64) AC.nil)))) (fun a => (bdL a.1 ∧ byteOk a.2.2.1.home) ∧ (-9223372036854775808 ≤ a.2.2.2.1 ∧ a.2.2.2.1 ≤ 9223372036854775807)) (fun a => bindF a.1 a.2.1 a.2.2.1 a.2.2.2.1) encBE)) ::
  (11, some (pureE (AC.cons (cSl eBd eBd_sz) (AC.cons (cI .i64) (AC.cons (cE (eA .u8 16)) AC.nil))) (fun a => bdL a.1) (fun a => placeF a.1 a.2.1 a.2.2.1) encPB)) :: LM1
theorem LM2_ok : AllOk Try.prog LM2 := ⟨pureE_ok ⟨_, Try.func14, rfl, by kernel_rfl⟩ fun a h => bind_ok a.1 a.2.1 a.2.2.1 a.2.2.2.1 h.1.1 h.1.2 h.2, pureE_ok ⟨_, Try.func11, rfl, by kernel_rfl⟩ fun a h => place_ok a.1 a.2.1 a.2.2.1 h, LM1_ok⟩
def LM3 : CsL := LM2 ++ ((20, some wipE) :: (6, some newTapeE) :: LT1)
theorem LM3_ok : AllOk Try.prog LM3 := append_ok LM2_ok ⟨tapeE_ok ⟨_, Try.func20, rfl, by kernel_rfl⟩ fun n l q a ht hp => wip_ok n l q ht, newTapeE_ok, LT1_ok⟩
def ip1 (n : Int) : Fin 16 → Int := fun q => if q.1 = 0 then n else 0
theorem ip1_ok {n : Int} (h : 0 ≤ n ∧ n < 256) : byteOk (ip1 n) := ⟨fun q => by unfold ip1; split <;> omega⟩
theorem bd_rd {g : Nat → CV} {a r : Fin 16 → Int} {s t : Int} (h1 : ∀ q, q < 16 → g (0 + q) = .int .u8 (vget a q)) (h2 : ∀ q, q < 16 → g (16 + q) = .int .u8 (vget r q)) (h3 : g 32 = .int .i64 s) (h4 : g 33 = .int .i64 t) : eBd.rd g = ⟨a, r, s, t⟩ := by
  show (⟨fun q => valI (g (0 + q.1)), fun q => valI (g (16 + q.1)), valI (g 32), valI (g 33)⟩ : Bd) = _
  have e1 : (fun q : Fin 16 => valI (g (0 + q.1))) = a := by funext q; rw [h1 q.1 q.2]; exact vget_lt _ q.2
  have e2 : (fun q : Fin 16 => valI (g (16 + q.1))) = r := by funext q; rw [h2 q.1 q.2]; exact vget_lt _ q.2
  rw [e1, e2, h3, h4]; rfl
theorem ip_rd {g : Nat → CV} {a : Fin 16 → Int} (h1 : ∀ q, q < 16 → g q = .int .u8 (vget a q)) : (eA .u8 16).rd g = a := by
  funext q
  show valI (g q.1) = _
  rw [h1 q.1 q.2]; exact vget_lt _ q.2
theorem bind_congr {l l' : List Bd} {now life : Int} {b b' : Bd} (h1 : l = l') (h2 : b = b') : bindF l now b life = bindF l' now b' life := by rw [h1, h2]
theorem place_congr {l l' : List Bd} {now : Int} {a a' : Fin 16 → Int} (h1 : l = l') (h2 : a = a') : placeF l now a = placeF l' now a' := by rw [h1, h2]
def kB1 : Bd := ⟨ip1 1, ip1 2, 4, 0⟩
def kB2 : Bd := ⟨ip1 1, ip1 3, 4, 0⟩
def kl : List Bd × Int := bindF [] 5 kB1 10
def kf : List Bd × Int := bindF kl.1 6 kB2 10
def kp : (Fin 16 → Int) × Bool := placeF kl.1 14 (ip1 1)
def kq : (Fin 16 → Int) × Bool := placeF kl.1 15 (ip1 1)
theorem kn36 : kl.2 = 0 ∧ kf.2 = 16 ∧ kp.2 = true ∧ kq.2 = false ∧ ipEq kp.1 (ip1 2) = true ∧ kl.1.length ≤ 5 := by decide +kernel
theorem kl_mem : kl.1 = [⟨ip1 1, ip1 2, 4, 15⟩] := rfl
theorem kl_bd : bdL kl.1 := ⟨fun b hb => by
  rw [kl_mem] at hb
  rw [List.mem_singleton.1 hb]
  exact ⟨ip1_ok (by omega), ip1_ok (by omega)⟩, by have := kn36.2.2.2.2.2; omega⟩
theorem kl_eq {l : List Bd} {g : Nat → CV} (h0 : l = []) (h1 : allLt 16 fun q => g (0 + q) = .int .u8 (vget (ip1 1) q)) (h2 : allLt 16 fun q => g (16 + q) = .int .u8 (vget (ip1 2) q)) (h3 : g 32 = .int .i64 4) (h4 : g 33 = .int .i64 0) : bindF l 5 (eBd.rd g) 10 = kl :=
  bind_congr h0 (bd_rd (allLt_at h1) (allLt_at h2) h3 h4)
theorem kf_eq {l : List Bd} {g : Nat → CV} (h0 : l = kl.1) (h1 : allLt 16 fun q => g (0 + q) = .int .u8 (vget (ip1 1) q)) (h2 : allLt 16 fun q => g (16 + q) = .int .u8 (vget (ip1 3) q)) (h3 : g 32 = .int .i64 4) (h4 : g 33 = .int .i64 0) : bindF l 6 (eBd.rd g) 10 = kf :=
  bind_congr h0 (bd_rd (allLt_at h1) (allLt_at h2) h3 h4)
theorem kp36_eq {l : List Bd} {g : Nat → CV} (h0 : l = kl.1) (h1 : allLt 16 fun q => g q = .int .u8 (vget (ip1 1) q)) : placeF l 14 ((eA .u8 16).rd g) = kp := place_congr h0 (ip_rd (allLt_at h1))
theorem kq_eq {l : List Bd} {g : Nat → CV} (h0 : l = kl.1) (h1 : allLt 16 fun q => g q = .int .u8 (vget (ip1 1) q)) : placeF l 15 ((eA .u8 16).rd g) = kq := place_congr h0 (ip_rd (allLt_at h1))
theorem by_bd {g : Nat → CV} (h1 : allLt 16 fun q => 0 ≤ valI (g (0 + q)) ∧ valI (g (0 + q)) < 256) : byteOk (eBd.rd g).home := ⟨fun q => allLt_at h1 q.1 q.2⟩
set_option maxHeartbeats 4000000 in
set_option maxRecDepth 10000 in
theorem known36_ok : PureOk Try.prog 12 [] (cB.enc true) := by
  obtain ⟨k1, k2, k3, k4, k5, k6⟩ := kn36
  have kbd := kl_bd
  refine pure_intro (wd := 1) (Q := mkQ LM3) (by decide) tysOk (q_of LM3_ok) mixed Try.func12 rfl _ (by show 0 ≤ _; decide) _ ?_
  repeat' (first | (apply And.intro <;> intro hc <;> (first | exact Bool.noConfusion hc | (simp only [decide_eq_true_eq, decide_eq_false_iff_not, Bool.not_eq_true', Bool.not_eq_false', beq_iff_eq, beq_eq_false_iff_ne, bne_iff_ne, bne_eq_false_iff_eq, Bool.true_eq_false, Bool.false_eq_true, ne_eq, not_true_eq_false] at hc <;> first | exact absurd rfl hc | skip) | skip)) | (refine And.intro (by first | exact trivial | decide | omega | (dsimp only; omega) | exact fun _ _ => rfl | exact ⟨by assumption, by first | exact trivial | decide | omega | (dsimp only; omega)⟩) ?_) | (apply And.intro) | (intro s hs; (try dsimp only at hs); (first | (have hs' : s = kl := hs.trans (kl_eq rfl (by repeat' (first | exact trivial | exact rfl | apply And.intro)) (by repeat' (first | exact trivial | exact rfl | apply And.intro)) rfl rfl)) | (have hs' : s = kf := hs.trans (kf_eq (toL_bd _) (by repeat' (first | exact trivial | exact rfl | apply And.intro)) (by repeat' (first | exact trivial | exact rfl | apply And.intro)) rfl rfl)) | (have hs' : s = kp := hs.trans (kp36_eq (toL_bd _) (by repeat' (first | exact trivial | exact rfl | apply And.intro)))) | (have hs' : s = kq := hs.trans (kq_eq (toL_bd _) (by repeat' (first | exact trivial | exact rfl | apply And.intro))))); clear hs; subst hs'))
  all_goals first
    | exact kbd
    | (show bdL (toL eBd kl.1.length (rowF eBd kl.1)); rw [toL_bd]; exact kbd)
    | exact ⟨fun b hb => (by cases hb), Nat.zero_le _⟩
    | (refine by_bd ?_
       repeat' (first | exact trivial | exact (show 0 ≤ (0 : Int) ∧ (0 : Int) < 256 by decide) | exact (show 0 ≤ (1 : Int) ∧ (1 : Int) < 256 by decide) | apply And.intro))
    | (show (-9223372036854775808 : Int) ≤ 10; decide)
    | (show (10 : Int) ≤ 9223372036854775807; decide)
    | (exfalso; rename ¬ kl.2 = 0 => h; exact h k1)
    | (exfalso; rename ¬ kf.2 = 16 => h; exact h k2)
    | (exfalso; rename kp.2 = false => h; rw [k3] at h; cases h)
    | (exfalso; rename kq.2 = true => h; rw [k4] at h; cases h)
    | exact Done.mk (leF_bool k5)
end Go.Proofs.Yteacebocjafinaa.AX

/- Plain laws of bindings: the order of addresses; the program's and the reference's Bind alike. -/
namespace Go.Proofs.Yteacebocjafinaa.AX
set_option linter.unusedVariables false
set_option linter.unusedSimpArgs false
theorem cmpI_zero : ∀ {a b : List Int}, a.length = b.length → (cmpI a b = 0 ↔ a = b) := by
  intro a
  induction a with
  | nil =>
    intro b h
    cases b with
    | nil => simp [cmpI]
    | cons => simp at h
  | cons x a ih =>
    intro b h
    cases b with
    | nil => simp at h
    | cons y b =>
      have := ih (b := b) (by simpa using h)
      rw [cmpI]
      by_cases h1 : x < y
      · rw [if_pos h1]; simp; intro h; omega
      · rw [if_neg h1]
        by_cases h2 : y < x
        · rw [if_pos h2]; simp; intro h; omega
        · rw [if_neg h2, this]
          have : x = y := by omega
          simp [this]
theorem cmpI_rng : ∀ (a b : List Int), cmpI a b = -1 ∨ cmpI a b = 0 ∨ cmpI a b = 1 := by
  intro a
  induction a with
  | nil => intro b; cases b <;> simp [cmpI]
  | cons x a ih =>
    intro b
    cases b with
    | nil => simp [cmpI]
    | cons y b => rw [cmpI]; split; · simp
                  · split; · simp
                    · exact ih b
theorem cmpI_swap : ∀ {a b : List Int}, cmpI a b = - cmpI b a := by
  intro a
  induction a with
  | nil => intro b; cases b <;> simp [cmpI]
  | cons x a ih =>
    intro b
    cases b with
    | nil => simp [cmpI]
    | cons y b =>
      rw [cmpI, cmpI]
      by_cases h1 : x < y
      · rw [if_pos h1, if_neg (by omega), if_pos h1]
      · rw [if_neg h1]
        by_cases h2 : y < x
        · rw [if_pos h2, if_pos h2]; rfl
        · rw [if_neg h2, if_neg h2, if_neg h1]; exact ih
theorem cmpI_trans : ∀ {a b c : List Int}, cmpI a b < 0 → cmpI b c < 0 → cmpI a c < 0 := by
  intro a
  induction a with
  | nil =>
    intro b c h1 h2
    cases b with
    | nil => simp [cmpI] at h1
    | cons y b =>
      cases c with
      | nil => simp [cmpI] at h2
      | cons z c => simp [cmpI]
  | cons x a ih =>
    intro b c h1 h2
    cases b with
    | nil => simp [cmpI] at h1
    | cons y b =>
      cases c with
      | nil => simp [cmpI] at h2
      | cons z c =>
        rw [cmpI] at h1 h2 ⊢
        by_cases g1 : x < y
        · by_cases g2 : y < z
          · rw [if_pos (by omega)]; decide
          · rw [if_neg g2] at h2
            by_cases g3 : z < y
            · rw [if_pos g3] at h2; exact absurd h2 (by decide)
            · rw [if_pos (by omega)]; decide
        · rw [if_neg g1] at h1
          by_cases g2 : y < x
          · rw [if_pos g2] at h1; exact absurd h1 (by decide)
          · rw [if_neg g2] at h1
            by_cases g3 : y < z
            · rw [if_pos (by omega)]; decide
            · rw [if_neg g3] at h2
              by_cases g4 : z < y
              · rw [if_pos g4] at h2; exact absurd h2 (by decide)
              · rw [if_neg g4] at h2
                rw [if_neg (by omega), if_neg (by omega)]
                exact ih h1 h2
theorem ipL_len (a : Fin 16 → Int) : (ipLm a).length = 16 := by simp [ipLm]
theorem ipL_inj {a b : Fin 16 → Int} (h : ipLm a = ipLm b) : a = b := by
  funext q
  have h1 : (ipLm a)[q.1]? = (ipLm b)[q.1]? := by rw [h]
  simp only [ipLm, List.getElem?_map, List.getElem?_range q.2, Option.map_some, Option.some.injEq] at h1
  rw [vget_lt _ q.2, vget_lt _ q.2] at h1
  exact h1
theorem ipC_zero {a b : Fin 16 → Int} : ipC a b = 0 ↔ a = b := by
  unfold ipC
  rw [cmpI_zero (by rw [ipL_len, ipL_len])]
  exact ⟨ipL_inj, fun h => by rw [h]⟩
theorem ipC_swap {a b : Fin 16 → Int} : ipC a b = - ipC b a := cmpI_swap
theorem ipC_trans {a b c : Fin 16 → Int} (h1 : ipC a b < 0) (h2 : ipC b c < 0) : ipC a c < 0 := cmpI_trans h1 h2
theorem ipC_self (a : Fin 16 → Int) : ipC a a = 0 := ipC_zero.2 rfl
/-! ### Bind, told otherwise -/
def rbindL (now : Int) (b : Bd) : Bool → List Bd → Option (List Bd)
  | done, [] => some (if done = true then [] else [b])
  | done, x :: l =>
    if ipC x.home b.home = 0 ∧ b.seq ≤ x.seq then none
    else (rbindL now b (done || decide (0 ≤ ipC x.home b.home)) l).map (((if 0 ≤ ipC x.home b.home ∧ done = false then [b] else []) ++ (if ipC x.home b.home ≠ 0 ∧ now < x.til then [x] else [])) ++ ·)
/-- All homes lie behind a. -/
def above (a : Fin 16 → Int) (l : List Bd) : Prop := ∀ x ∈ l, ipC a x.home < 0
def keepB (now : Int) (l : List Bd) : List Bd := l.filter fun x => decide (now < x.til)
theorem above_true {now : Int} {b : Bd} : ∀ {l : List Bd}, above b.home l → bindL now b true l = some (keepB now l) := by
  intro l
  induction l with
  | nil => intro _; rfl
  | cons x l ih =>
    intro h
    have hx := h x (by simp)
    have hne : ¬ ipEq x.home b.home = true := fun e => by rw [ipEq_iff.1 e, ipC_self] at hx; omega
    have := ih fun y hy => h y (by simp [hy])
    rw [bindL, if_neg hne]
    by_cases ht : x.til ≤ now
    · rw [if_pos ht, this]; simp [keepB, show ¬ now < x.til by omega]
    · rw [if_neg ht, if_neg (by simp), this]; simp [keepB, show now < x.til by omega]
theorem above_false {now : Int} {b : Bd} : ∀ {l : List Bd}, above b.home l → bindL now b false l = some (b :: keepB now l) := by
  intro l
  induction l with
  | nil => intro _; rfl
  | cons x l ih =>
    intro h
    have hx := h x (by simp)
    have hne : ¬ ipEq x.home b.home = true := fun e => by rw [ipEq_iff.1 e, ipC_self] at hx; omega
    have h' : above b.home l := fun y hy => h y (by simp [hy])
    rw [bindL, if_neg hne]
    by_cases ht : x.til ≤ now
    · rw [if_pos ht, ih h']; simp [keepB, show ¬ now < x.til by omega]
    · rw [if_neg ht, if_pos ⟨rfl, hx⟩, above_true h']; simp [keepB, show now < x.til by omega]
theorem rabove_true {now : Int} {b : Bd} : ∀ {l : List Bd}, above b.home l → rbindL now b true l = some (keepB now l) := by
  intro l
  induction l with
  | nil => intro _; rfl
  | cons x l ih =>
    intro h
    have hx := h x (by simp)
    have hk : 0 < ipC x.home b.home := by rw [ipC_swap]; omega
    rw [rbindL, if_neg (fun e => by omega), Bool.true_or, ih fun y hy => h y (by simp [hy]), if_neg (by simp)]
    by_cases ht : now < x.til
    · rw [if_pos ⟨by omega, ht⟩]; simp [keepB, ht]
    · rw [if_neg (fun e => ht e.2)]; simp [keepB, ht]
theorem rabove_false {now : Int} {b : Bd} : ∀ {l : List Bd}, above b.home l → rbindL now b false l = some (b :: keepB now l) := by
  intro l h
  cases l with
  | nil => rfl
  | cons x l =>
    have hx := h x (by simp)
    have hk : 0 < ipC x.home b.home := by rw [ipC_swap]; omega
    rw [rbindL, if_neg (fun e => by omega), decide_eq_true (show 0 ≤ ipC x.home b.home by omega), Bool.or_true, rabove_true fun y hy => h y (by simp [hy]), if_pos ⟨by omega, rfl⟩]
    by_cases ht : now < x.til
    · rw [if_pos ⟨by omega, ht⟩]; simp [keepB, ht]
    · rw [if_neg (fun e => ht e.2)]; simp [keepB, ht]
theorem bv_cons {p : Option (Fin 16 → Int)} {x : Bd} {l : List Bd} : bvF p (x :: l) = true ↔ bdOk x = true ∧ ordOk p x.home = true ∧ bvF (some x.home) l = true := by
  rw [bvF]; simp only [Bool.and_eq_true]; exact ⟨fun h => ⟨h.1.1, h.1.2, h.2⟩, fun h => ⟨⟨h.1, h.2.1⟩, h.2.2⟩⟩
theorem bv_above : ∀ {l : List Bd} {a : Fin 16 → Int}, bvF (some a) l = true → above a l := by
  intro l
  induction l with
  | nil => intro a _ x hx; cases hx
  | cons y l ih =>
    intro a h x hx
    obtain ⟨_, h2, h3⟩ := bv_cons.1 h
    simp only [ordOk, decide_eq_true_eq] at h2
    rcases List.mem_cons.1 hx with rfl | hx
    · exact h2
    · exact ipC_trans h2 (ih h3 x hx)
theorem bind_same {now : Int} {b : Bd} : ∀ {l : List Bd} {p : Option (Fin 16 → Int)}, bvF p l = true → rbindL now b false l = bindL now b false l := by
  intro l
  induction l with
  | nil => intro p _; rfl
  | cons x l ih =>
    intro p h
    obtain ⟨_, _, h3⟩ := bv_cons.1 h
    have hab := bv_above h3
    rcases Int.lt_trichotomy (ipC x.home b.home) 0 with hk | hk | hk
    · have hne : ¬ ipEq x.home b.home = true := fun e => by rw [ipEq_iff.1 e, ipC_self] at hk; omega
      rw [rbindL, if_neg (fun e => by omega), decide_eq_false (by omega), Bool.or_false, if_neg (fun e => by omega), ih h3, bindL, if_neg hne]
      by_cases ht : x.til ≤ now
      · rw [if_pos ht, if_neg (fun e => by omega)]; exact map_nil
      · rw [if_neg ht, if_pos ⟨by omega, by omega⟩, if_neg (fun e => by have := e.2; rw [ipC_swap] at this; omega)]; rfl
    · have he := ipC_zero.1 hk
      have hab' : above b.home l := by rw [← he]; exact hab
      rw [rbindL, bindL, if_pos (ipEq_iff.2 he)]
      by_cases hs : b.seq ≤ x.seq
      · rw [if_pos ⟨hk, hs⟩, if_pos hs]
      · rw [if_neg (fun e => hs e.2), if_neg hs, decide_eq_true (by omega), Bool.or_true, rabove_true hab', above_true hab', if_pos ⟨by omega, rfl⟩, if_neg (fun e => e.1 hk)]; rfl
    · have hlt : ipC b.home x.home < 0 := by rw [ipC_swap]; omega
      have hab' : above b.home (x :: l) := fun y hy => by
        rcases List.mem_cons.1 hy with rfl | hy
        · exact hlt
        · exact ipC_trans hlt (hab y hy)
      rw [rabove_false hab', above_false hab']
theorem keep_bv {now : Int} : ∀ {l : List Bd} {p : Option (Fin 16 → Int)}, bvF p l = true → bvF p (keepB now l) = true := by
  intro l
  induction l with
  | nil => intro p _; rfl
  | cons x l ih =>
    intro p h
    obtain ⟨h1, h2, h3⟩ := bv_cons.1 h
    by_cases ht : now < x.til
    · have e : keepB now (x :: l) = x :: keepB now l := by simp [keepB, ht]
      rw [e]
      exact bv_cons.2 ⟨h1, h2, ih h3⟩
    · have e : keepB now (x :: l) = keepB now l := by simp [keepB, ht]
      rw [e]
      refine ih ?_
      cases l with
      | nil => rfl
      | cons y l =>
        obtain ⟨g1, g2, g3⟩ := bv_cons.1 h3
        refine bv_cons.2 ⟨g1, ?_, g3⟩
        cases p with
        | none => rfl
        | some a =>
          simp only [ordOk, decide_eq_true_eq] at h2 g2 ⊢
          exact ipC_trans h2 g2
theorem keep_bv_from {now : Int} {l : List Bd} {a : Fin 16 → Int} (p : Option (Fin 16 → Int)) (h : bvF p l = true) (hab : above a l) : bvF (some a) (keepB now l) = true := by
  refine keep_bv ?_
  cases l with
  | nil => rfl
  | cons y l =>
    obtain ⟨g1, g2, g3⟩ := bv_cons.1 h
    refine bv_cons.2 ⟨g1, ?_, g3⟩
    simp only [ordOk, decide_eq_true_eq]
    exact hab y (by simp)
theorem bind_bv {now : Int} {b : Bd} (hb : bdOk b = true) : ∀ {l : List Bd} {p : Option (Fin 16 → Int)} {out : List Bd}, bvF p l = true → ordOk p b.home = true → bindL now b false l = some out → bvF p out = true := by
  intro l
  induction l with
  | nil =>
    intro p out _ ho h
    simp only [bindL, Option.some.injEq] at h
    subst h
    exact bv_cons.2 ⟨hb, ho, rfl⟩
  | cons x l ih =>
    intro p out hv ho h
    obtain ⟨h1, h2, h3⟩ := bv_cons.1 hv
    have hab := bv_above h3
    rcases Int.lt_trichotomy (ipC x.home b.home) 0 with hk | hk | hk
    · have hne : ¬ ipEq x.home b.home = true := fun e => by rw [ipEq_iff.1 e, ipC_self] at hk; omega
      rw [bindL, if_neg hne] at h
      have hox : ordOk (some x.home) b.home = true := by simp only [ordOk, decide_eq_true_eq]; exact hk
      by_cases ht : x.til ≤ now
      · rw [if_pos ht] at h
        have := ih h3 hox h
        cases out with
        | nil => rfl
        | cons y out =>
          obtain ⟨g1, g2, g3⟩ := bv_cons.1 this
          refine bv_cons.2 ⟨g1, ?_, g3⟩
          cases p with
          | none => rfl
          | some a =>
            simp only [ordOk, decide_eq_true_eq] at h2 g2 ⊢
            exact ipC_trans h2 g2
      · rw [if_neg ht, if_neg (fun e => by have := e.2; rw [ipC_swap] at this; omega)] at h
        cases ho' : bindL now b false l with
        | none => rw [ho'] at h; cases h
        | some o =>
          rw [ho'] at h
          simp only [Option.map_some, Option.some.injEq] at h
          subst h
          exact bv_cons.2 ⟨h1, h2, ih h3 hox ho'⟩
    · have he := ipC_zero.1 hk
      have hab' : above b.home l := by rw [← he]; exact hab
      rw [bindL, if_pos (ipEq_iff.2 he)] at h
      by_cases hs : b.seq ≤ x.seq
      · rw [if_pos hs] at h; cases h
      · rw [if_neg hs, above_true hab'] at h
        simp only [Option.map_some, Option.some.injEq] at h
        subst h
        exact bv_cons.2 ⟨hb, ho, keep_bv_from _ h3 hab'⟩
    · have hlt : ipC b.home x.home < 0 := by rw [ipC_swap]; omega
      have hab' : above b.home (x :: l) := fun y hy => by
        rcases List.mem_cons.1 hy with rfl | hy
        · exact hlt
        · exact ipC_trans hlt (hab y hy)
      rw [above_false hab'] at h
      simp only [Option.some.injEq] at h
      subst h
      exact bv_cons.2 ⟨hb, ho, keep_bv_from _ hv hab'⟩
theorem bind_mem {now : Int} {b : Bd} : ∀ {l : List Bd} {placed : Bool} {out : List Bd}, bindL now b placed l = some out → ∀ x ∈ out, x = b ∨ x ∈ l := by
  intro l
  induction l with
  | nil =>
    intro placed out h x hx
    simp only [bindL, Option.some.injEq] at h
    subst h
    split at hx
    · cases hx
    · exact .inl (List.mem_singleton.1 hx)
  | cons y l ih =>
    intro placed out h x hx
    rw [bindL] at h
    have go : ∀ {pl : Bool} {pre : List Bd}, (bindL now b pl l).map (pre ++ ·) = some out → (∀ z ∈ pre, z = b ∨ z ∈ y :: l) → x = b ∨ x ∈ y :: l := by
      intro pl pre hm hp
      cases ho : bindL now b pl l with
      | none => rw [ho] at hm; cases hm
      | some o =>
        rw [ho] at hm
        simp only [Option.map_some, Option.some.injEq] at hm
        subst hm
        rcases List.mem_append.1 hx with h1 | h1
        · exact hp x h1
        · rcases ih ho x h1 with h2 | h2
          · exact .inl h2
          · exact .inr (by simp [h2])
    split at h
    · split at h
      · cases h
      · exact go h (by simp)
    · split at h
      · rcases ih h x hx with h2 | h2
        · exact .inl h2
        · exact .inr (by simp [h2])
      · split at h
        · exact go h (by simp)
        · exact go h (by simp)
end Go.Proofs.Yteacebocjafinaa.AX

/- The references of layers 22 and 36: IsTime, After, CompareIP, Valid (by AX2). -/
namespace Go.Proofs.Yteacebocjafinaa.AX
open Go.RowKit
set_option linter.unusedVariables false
set_option linter.unusedSimpArgs false
theorem rtm_ok (t : Int) : PureOk Try.prog 30 [(cI .i64).enc t] (cB.enc (vt t)) := by
  refine pure_intro (wd := 1) (Q := mkQ LE0) (by decide) tysOk (q_of LE0_ok) mixed Try.func30 rfl _ (by show 1 ≤ _; decide) _ ?_
  repeat' (first | (apply And.intro <;> intro hc <;> (first | exact Bool.noConfusion hc | (simp only [decide_eq_true_eq, decide_eq_false_iff_not, Bool.not_eq_true', Bool.not_eq_false', beq_iff_eq, beq_eq_false_iff_ne, bne_iff_ne, bne_eq_false_iff_eq, Bool.true_eq_false, Bool.false_eq_true] at hc) | skip)) | (refine And.intro (by first | exact trivial | decide | omega | (dsimp only; omega) | exact fun _ _ => rfl) ?_) | (apply And.intro) | (intro s hs))
  all_goals (refine Done.mk (leF_bool ?_); simp [vt, *])
theorem after_ok (t d : Int) (h : 0 ≤ t ∧ t ≤ 1099511627776) (h' : 0 ≤ d ∧ d ≤ 60) : PureOk Try.prog 31 [(cI .i64).enc t, (cI .i64).enc d] ((cI .i64).enc (minT t d)) := by
  refine pure_intro (wd := 1) (Q := mkQ LE0) (by decide) tysOk (q_of LE0_ok) mixed Try.func31 rfl _ (by show 2 ≤ _; decide) _ ?_
  refine Done.mk (leF_int ?_)
  rw [IntWalk.i64_in _ (by omega)]; rfl
theorem ipL_drop (a : Fin 16 → Int) {i : Nat} (h : i < 16) : (ipLm a).drop i = vget a i :: (ipLm a).drop (i + 1) := by
  rw [List.drop_eq_getElem_cons (by rw [ipL_len]; exact h)]
  simp [ipLm]
set_option maxRecDepth 10000 in
theorem cmpIP_ok (a b : Fin 16 → Int) : PureOk Try.prog 32 [(cE (eA .u8 16)).enc a, (cE (eA .u8 16)).enc b] ((cI .i64).enc (ipC a b)) := by
  refine pure_intro (wd := 1) (Q := mkQ LE0) (by decide) tysOk (q_of LE0_ok) mixed Try.func32 rfl _ (by show 2 ≤ _; decide) _ ?_
  refine loop_intro (mono_of LE0_ok) (fun i : {i : Nat // i ≤ 16 ∧ ipC a b = cmpI ((ipLm a).drop i) ((ipLm b).drop i)} => (⟨[(2, one (.ptr 0 0 0 false)), (3, one (.ptr 1 0 0 false)), (5, one (.int .i64 (i.1 : Int)))],
    [(0, some ⟨29, 1, 16, true, fun _ => (eA .u8 16).cell a⟩), (1, some ⟨29, 1, 16, true, fun _ => (eA .u8 16).cell b⟩)], 5⟩ : Hd)) (fun i => 16 - i.1) (fun _ => rfl) ?_ ⟨0, by omega, rfl⟩ [] ?_
  · rintro ⟨i, hi, hv⟩
    dsimp only at hi hv ⊢
    have hlt : (i : Int) < 16 → ipC a b = if vget a i < vget b i then -1 else if vget b i < vget a i then 1 else cmpI ((ipLm a).drop (i + 1)) ((ipLm b).drop (i + 1)) := fun h => by
      rw [hv, ipL_drop a (by omega), ipL_drop b (by omega), cmpI]
    have e0 : 0 + (i : Int).toNat * 1 + 0 = i := by omega
    repeat' (first | (apply And.intro <;> intro hc <;> (first | exact Bool.noConfusion hc | (simp only [decide_eq_true_eq, decide_eq_false_iff_not, Bool.not_eq_true', Bool.not_eq_false', beq_iff_eq, beq_eq_false_iff_ne, bne_iff_ne, bne_eq_false_iff_eq, Bool.true_eq_false, Bool.false_eq_true] at hc) | skip)) | (refine And.intro (by first | exact trivial | decide | omega | (dsimp only; omega) | exact fun _ _ => rfl) ?_) | (apply And.intro) | (intro s hs))
    all_goals first
      | (show 1 ≤ 16 - _; omega)
      | (have h1 : vget a (0 + (i : Int).toNat * 1 + 0) < vget b (0 + (i : Int).toNat * 1 + 0) := by assumption
         rw [e0] at h1
         rw [hlt (by assumption), if_pos h1]
         exact Done.mk (leF_int rfl))
      | (have h1 : ¬ vget a (0 + (i : Int).toNat * 1 + 0) < vget b (0 + (i : Int).toNat * 1 + 0) := by assumption
         rw [e0] at h1
         first
           | (have h2 : vget b (0 + (i : Int).toNat * 1 + 0) < vget a (0 + (i : Int).toNat * 1 + 0) := by assumption
              rw [e0] at h2
              rw [hlt (by assumption), if_neg h1, if_pos h2]
              exact Done.mk (leF_int rfl))
           | (have h2 : ¬ vget b (0 + (i : Int).toNat * 1 + 0) < vget a (0 + (i : Int).toNat * 1 + 0) := by assumption
              rw [e0] at h2
              refine ⟨⟨i + 1, by omega, ?_⟩, [], by dsimp only; omega, rfl, ?_, ?_⟩
              · rw [hlt (by assumption), if_neg h1, if_neg h2]
              · repeat' (first | exact trivial | exact rfl | exact leF_ptr rfl | exact leF_int rfl | exact leF_bool rfl | exact leF_cl (cl_slB _ _) | exact leF_cl (cl_slR _ _) | exact leF_cl (cl_ll _ _) | exact leF_c (leC_os rfl rfl) | refine leF_int ?_ | refine leF_bool ?_ | exact leN_varA (fun _ _ => (Elem.flat _ _ _).le) | exact leN_varA (fun _ _ => leC_top) | apply And.intro)
                first | (dsimp only; rw [IntWalk.i64_in _ (by omega)]; omega) | (dsimp only; rw [IntWalk.i64_in _ (by omega)]; done) | (dsimp only; exact IntWalk.i64_in _ (by omega)) | exact IntWalk.i64_in _ (by omega) | (rw [IntWalk.i64_in _ (by omega)]; omega)
              · repeat' (first | exact trivial | exact rfl | exact leF_ptr rfl | exact leF_int rfl | exact leF_bool rfl | exact leF_cl (cl_slB _ _) | exact leF_cl (cl_slR _ _) | exact leF_cl (cl_ll _ _) | exact leF_c (leC_os rfl rfl) | refine leF_int ?_ | refine leF_bool ?_ | exact leN_varA (fun _ _ => (Elem.flat _ _ _).le) | exact leN_varA (fun _ _ => leC_top) | apply And.intro)))
      | (have h16 : i = 16 := by omega
         have e : ipC a b = 0 := by rw [hv, h16, List.drop_eq_nil_of_le (by rw [ipL_len]; omega), List.drop_eq_nil_of_le (by rw [ipL_len]; omega)]; rfl
         rw [e]
         exact Done.mk (leF_int rfl))
  · refine ⟨rfl, ?_, ?_⟩
    · repeat' (first | exact trivial | exact rfl | exact leF_ptr rfl | exact leF_int rfl | exact leF_bool rfl | exact leF_cl (cl_slB _ _) | exact leF_cl (cl_slR _ _) | exact leF_cl (cl_ll _ _) | exact leF_c (leC_os rfl rfl) | refine leF_int ?_ | refine leF_bool ?_ | exact leN_varA (fun _ _ => (Elem.flat _ _ _).le) | exact leN_varA (fun _ _ => leC_top) | apply And.intro)
    · repeat' (first | exact trivial | exact rfl | exact leF_ptr rfl | exact leF_int rfl | exact leF_bool rfl | exact leF_cl (cl_slB _ _) | exact leF_cl (cl_slR _ _) | exact leF_cl (cl_ll _ _) | exact leF_c (leC_os rfl rfl) | refine leF_int ?_ | refine leF_bool ?_ | exact leN_varA (fun _ _ => (Elem.flat _ _ _).le) | exact leN_varA (fun _ _ => leC_top) | apply And.intro)
def LN0 : CsL := (30, some (pureE (AC.cons (cI .i64) AC.nil) (fun _ => True) (fun a => vt a.1) cB.enc)) ::
  (31, some (pureE (AC.cons (cI .i64) (AC.cons (cI .i64) AC.nil)) (fun a => (0 ≤ a.1 ∧ a.1 ≤ 1099511627776) ∧ (0 ≤ a.2.1 ∧ a.2.1 ≤ 60)) (fun a => minT a.1 a.2.1) (cI .i64).enc)) ::
  (32, some (pureE (AC.cons (cE (eA .u8 16)) (AC.cons (cE (eA .u8 16)) AC.nil)) (fun _ => True) (fun a => ipC a.1 a.2.1) (cI .i64).enc)) :: []
theorem LN0_ok : AllOk Try.prog LN0 := ⟨pureE_ok ⟨_, Try.func30, rfl, by kernel_rfl⟩ fun a _ => rtm_ok a.1, pureE_ok ⟨_, Try.func31, rfl, by kernel_rfl⟩ fun a h => after_ok a.1 a.2.1 h.1 h.2, pureE_ok ⟨_, Try.func32, rfl, by kernel_rfl⟩ fun a _ => cmpIP_ok a.1 a.2.1, trivial⟩
theorem ipC_congr {a a' b b' : Fin 16 → Int} (h1 : a = a') (h2 : b = b') : ipC a b = ipC a' b' := by rw [h1, h2]
theorem sq_iff {s : Int} : sqOk s = true ↔ ¬ s < 0 ∧ ¬ 1073741824 < s := by simp [sqOk]
set_option maxHeartbeats 4000000 in
set_option maxRecDepth 20000 in
theorem rmvalid_ok (l : List Bd) (hl : bdL l) : PureOk Try.prog 28 [(cSl eBd eBd_sz).enc l] (cB.enc (bvalid l)) := by
  have hn := hl.n
  refine pure_intro (wd := 1) (Q := mkQ LN0) (by decide) tysOk (q_of LN0_ok) mixed Try.func28 rfl _ (by show 1 ≤ _; decide) _ ?_
  repeat' (first | (apply And.intro <;> intro hc <;> (first | exact Bool.noConfusion hc | (simp only [decide_eq_true_eq, decide_eq_false_iff_not, Bool.not_eq_true', Bool.not_eq_false', beq_iff_eq, beq_eq_false_iff_ne, bne_iff_ne, bne_eq_false_iff_eq, Bool.true_eq_false, Bool.false_eq_true] at hc) | skip)) | (refine And.intro (by first | exact trivial | decide | omega | (dsimp only; omega) | exact fun _ _ => rfl) ?_) | (apply And.intro) | (intro s hs))
  · have e : bvalid l = false := by unfold bvalid; rw [decide_eq_false (by omega)]; rfl
    rw [e]
    exact Done.mk (leF_bool rfl)
  have e : bvalid l = bvF none l := by unfold bvalid; rw [decide_eq_true (by omega)]; rfl
  rw [e]
  refine loop_intro (mono_of LN0_ok) (fun i : {i : Nat // i ≤ l.length ∧ bvF none l = bvF (pvB l i) (l.drop i)} => (⟨[(0, one (.sl false l.length eBd.sz (rowF eBd l))), (8, one (.sl false l.length eBd.sz (rowF eBd l))), (9, one (.int .i64 (l.length : Int))), (10, one (.int .i64 (i.1 : Int)))], [], 10⟩ : Hd)) (fun i => l.length - i.1) (fun _ => rfl) ?_ ⟨0, by omega, rfl⟩ [] ?_
  · rintro ⟨i, hi, hv⟩
    dsimp only at hi hv ⊢
    have hcmp : 0 < (i : Int) → (0 ≤ IntKind.i64.wrap ((i : Int) - 1) ∧ IntKind.i64.wrap ((i : Int) - 1) < (l.length : Int)) ∧ (IntKind.i64.wrap ((i : Int) - 1)).toNat < l.length ∧ pvB l i = some (l.getD (IntKind.i64.wrap ((i : Int) - 1)).toNat default).home := fun h => by
      rw [show IntKind.i64.wrap ((i : Int) - 1) = (i : Int) - 1 from IntWalk.i64_in _ (by omega)]
      exact ⟨⟨by omega, by omega⟩, by omega, by rw [pvB, if_neg (by omega), show ((i : Int) - 1).toNat = i - 1 by omega]⟩
    have hp0 : ¬ 0 < (i : Int) → pvB l i = none := fun h => by rw [pvB, if_pos (by omega)]
    repeat' (first | (apply And.intro <;> intro hc <;> (first | exact Bool.noConfusion hc | (simp only [decide_eq_true_eq, decide_eq_false_iff_not, Bool.not_eq_true', Bool.not_eq_false', beq_iff_eq, beq_eq_false_iff_ne, bne_iff_ne, bne_eq_false_iff_eq, Bool.true_eq_false, Bool.false_eq_true] at hc) | skip)) | (refine And.intro (by first | exact trivial | decide | omega | (dsimp only; omega) | exact fun _ _ => rfl) ?_) | (apply And.intro) | (intro s hs))
    all_goals first
      | exact (hcmp (by assumption)).1.1
      | exact (hcmp (by assumption)).1.2
      | (refine Done.mk (leF_bool ?_)
         have hlt : i < l.length := by omega
         symm
         rw [hv, bv_step _ hlt, Bool.eq_false_iff]
         intro h
         simp only [Bool.and_eq_true, bdOk, Bool.not_eq_true', sq_iff] at h
         obtain ⟨⟨⟨⟨h1, h2, h2'⟩, h3⟩, h4⟩, _⟩ := h
         first
           | (have q : ipEq (l.getD i default).place (l.getD i default).home = true := by assumption
              rw [h1] at q; cases q)
           | exact h2 (by assumption)
           | exact h2' (by assumption)
           | (have q : s = vt (l.getD i default).til := hs
              have q2 : s = false := by assumption
              rw [q, h3] at q2; cases q2)
           | (have q2 : 0 < (i : Int) := by assumption
              have q : s = ipC (l.getD (IntKind.i64.wrap ((i : Int) - 1)).toNat default).home (l.getD i default).home := by rw [hs]; dsimp only; refine ipC_congr (ip_rd fun k hk => ?_) (ip_rd fun k hk => ?_) <;> exact home_cell (by omega) hk
              have q3 : 0 ≤ s := by assumption
              rw [(hcmp q2).2.2] at h4
              simp only [ordOk, decide_eq_true_eq] at h4
              omega))
      | (have hlt : i < l.length := by omega
         have b1 : ipEq (l.getD i default).place (l.getD i default).home = false := by assumption
         have b2 : sqOk (l.getD i default).seq = true := sq_iff.2 ⟨by assumption, by assumption⟩
         have b4 : ordOk (pvB l i) (l.getD i default).home = true := by
           first
             | (rw [hp0 (by assumption)]; rfl)
             | (have q2 : 0 < (i : Int) := by assumption
                have q : s = ipC (l.getD (IntKind.i64.wrap ((i : Int) - 1)).toNat default).home (l.getD i default).home := by rw [hs]; dsimp only; refine ipC_congr (ip_rd fun k hk => ?_) (ip_rd fun k hk => ?_) <;> exact home_cell (by omega) hk
                have q3 : ¬ 0 ≤ s := by assumption
                rw [(hcmp q2).2.2]
                simp only [ordOk, decide_eq_true_eq]
                omega)
         have b3 : vt (l.getD i default).til = true := by
           first
             | exact (show _ = s from hs.symm).trans (by assumption)
             | (rename Bool => sb
                rename sb = _ => hsb
                first
                  | exact (show _ = sb from (by assumption : sb = _).symm).trans (by assumption))
         refine ⟨⟨i + 1, by omega, ?_⟩, [], by dsimp only; omega, rfl, ?_, ?_⟩
         · rw [hv, bv_step _ hlt, bdOk, b1, b4, b2, b3]; rfl
         · repeat' (first | exact trivial | exact rfl | exact leF_ptr rfl | exact leF_int rfl | exact leF_bool rfl | exact leF_cl (cl_slB _ _) | exact leF_cl (cl_slR _ _) | exact leF_cl (cl_ll _ _) | exact leF_c (leC_os rfl rfl) | refine leF_int ?_ | refine leF_bool ?_ | exact leN_varA (fun _ _ => (Elem.flat _ _ _).le) | exact leN_varA (fun _ _ => leC_top) | apply And.intro)
           first | (dsimp only; rw [IntWalk.i64_in _ (by omega)]; omega) | (dsimp only; rw [IntWalk.i64_in _ (by omega)]; done) | (dsimp only; exact IntWalk.i64_in _ (by omega)) | exact IntWalk.i64_in _ (by omega) | (rw [IntWalk.i64_in _ (by omega)]; omega)
         · repeat' (first | exact trivial | exact rfl | exact leF_ptr rfl | exact leF_int rfl | exact leF_bool rfl | exact leF_cl (cl_slB _ _) | exact leF_cl (cl_slR _ _) | exact leF_cl (cl_ll _ _) | exact leF_c (leC_os rfl rfl) | refine leF_int ?_ | refine leF_bool ?_ | exact leN_varA (fun _ _ => (Elem.flat _ _ _).le) | exact leN_varA (fun _ _ => leC_top) | apply And.intro))
      | (refine Done.mk (leF_bool ?_)
         have hil : i = l.length := by omega
         rw [hv, hil, List.drop_length]; rfl)
  · refine ⟨rfl, ?_, ?_⟩
    · repeat' (first | exact trivial | exact rfl | exact leF_ptr rfl | exact leF_int rfl | exact leF_bool rfl | exact leF_cl (cl_slB _ _) | exact leF_cl (cl_slR _ _) | exact leF_cl (cl_ll _ _) | exact leF_c (leC_os rfl rfl) | refine leF_int ?_ | refine leF_bool ?_ | exact leN_varA (fun _ _ => (Elem.flat _ _ _).le) | exact leN_varA (fun _ _ => leC_top) | apply And.intro)
    · repeat' (first | exact trivial | exact rfl | exact leF_ptr rfl | exact leF_int rfl | exact leF_bool rfl | exact leF_cl (cl_slB _ _) | exact leF_cl (cl_slR _ _) | exact leF_cl (cl_ll _ _) | exact leF_c (leC_os rfl rfl) | refine leF_int ?_ | refine leF_bool ?_ | exact leN_varA (fun _ _ => (Elem.flat _ _ _).le) | exact leN_varA (fun _ _ => leC_top) | apply And.intro)
end Go.Proofs.Yteacebocjafinaa.AX

/- The reference of layer 36: Bind (by AX2). -/
namespace Go.Proofs.Yteacebocjafinaa.AX
open Go.RowKit
set_option linter.unusedVariables false
set_option linter.unusedSimpArgs false
def LN1 : CsL := (28, some (pureE (AC.cons (cSl eBd eBd_sz) AC.nil) (fun a => bdL a.1) (fun a => bvalid a.1) cB.enc)) :: LN0
theorem LN1_ok : AllOk Try.prog LN1 := ⟨pureE_ok ⟨_, Try.func28, rfl, by kernel_rfl⟩ fun a h => rmvalid_ok a.1 h, LN0_ok⟩
theorem bindF_r {l : List Bd} {now life : Int} {b : Bd} (h1 : bvalid l = true) (h0 : ipEq b.place b.home = false) (h2 : vt now = true) (h3 : sqOk b.seq = true) (h4 : ¬ life < 0) (h5 : ¬ 60 < life) : bindF l now b life = bindE (rbindL now { b with til := minT now life } false l) := by
  rw [bindF, if_pos ⟨h1, h0⟩, if_pos ⟨h2, h3, by omega, by omega⟩]
  unfold bvalid at h1
  simp only [Bool.and_eq_true] at h1
  rw [bind_same h1.2]
structure RbS (l : List Bd) (b : Bd) (now : Int) where
  i : Nat
  out : List Bd
  done : Bool
  hi : i ≤ l.length
  hn : out.length ≤ 2 * i
  h : rbindL now b false l = (rbindL now b done (l.drop i)).map (out ++ ·)
set_option maxHeartbeats 8000000 in
set_option maxRecDepth 20000 in
theorem rbind_ok (l : List Bd) (now : Int) (b : Bd) (life : Int) (hl : bdL l) (hb : byteOk b.home) (hlife : -9223372036854775808 ≤ life ∧ life ≤ 9223372036854775807) : PureOk Try.prog 19 [(cSl eBd eBd_sz).enc l, (cI .i64).enc now, (cE eBd).enc b, (cI .i64).enc life] (encBE (bindF l now b life)) := by
  have hn := hl.n
  have hv2 : vt now = true → 0 ≤ now ∧ now ≤ 1099511627776 := fun h2 => by
    unfold vt at h2
    simp only [Bool.and_eq_true, decide_eq_true_eq] at h2
    exact h2
  refine pure_intro (wd := 1) (Q := mkQ LN1) (by decide) tysOk (q_of LN1_ok) mixed Try.func19 rfl _ (by show 4 ≤ _; decide) _ ?_
  repeat' (first | (apply And.intro <;> intro hc <;> (first | exact Bool.noConfusion hc | (simp only [decide_eq_true_eq, decide_eq_false_iff_not, Bool.not_eq_true', Bool.not_eq_false', beq_iff_eq, beq_eq_false_iff_ne, bne_iff_ne, bne_eq_false_iff_eq, Bool.true_eq_false, Bool.false_eq_true, ne_eq, not_true_eq_false] at hc <;> first | exact absurd rfl hc | skip) | skip)) | (refine And.intro (by first | exact trivial | decide | omega | (dsimp only; omega) | exact fun _ _ => rfl | exact ⟨by assumption, by first | exact trivial | decide | omega | (dsimp only; omega)⟩) ?_) | (apply And.intro) | (intro s hs; (first | (have hs' : s = bvalid l := hs.trans (by show bvalid (toL eBd l.length (rowF eBd l)) = _; rw [toL_bd])) | (have hs' : s = vt now := hs) | (have hs' : s = minT now life := hs)); clear hs; subst hs'))
  all_goals first
    | (show bdL (toL eBd l.length (rowF eBd l)); rw [toL_bd]; exact hl)
    | exact (hv2 (by assumption)).1
    | exact (hv2 (by assumption)).2
    | (show 0 ≤ life; omega)
    | (show life ≤ 60; omega)
    | (have e : bindF l now b life = ([], 1) := by
         first
           | (have h1 : bvalid l = false := by assumption
              simp [bindF, h1])
           | (have h1 : ipEq b.place b.home = true := by assumption
              simp [bindF, h1])
       rw [e]
       exact Done.mk (leF_tup ⟨leC_nils_sl rfl, leC_int rfl, trivial⟩))
    | (have e : bindF l now b life = ([], 2) := by
         have h0 : ipEq b.place b.home = false := by assumption
         have h1 : bvalid l = true := by assumption
         rw [bindF, if_pos ⟨h1, h0⟩, if_neg]
         rintro ⟨g1, g2, g3, g4⟩
         have g2' := sq_iff.1 g2
         first
           | omega
           | (have q : vt now = false := by assumption
              rw [g1] at q; cases q)
       rw [e]
       exact Done.mk (leF_tup ⟨leC_nils_sl rfl, leC_int rfl, trivial⟩))
    | skip
  have h0 : ipEq b.place b.home = false := by assumption
  have h1 : bvalid l = true := by assumption
  have h2 : vt now = true := by assumption
  have h3 : sqOk b.seq = true := sq_iff.2 ⟨by assumption, by assumption⟩
  have h4 : ¬ life < 0 := by assumption
  have h5 : ¬ 60 < life := by assumption
  have h32 := bv_len h1
  rw [bindF_r h1 h0 h2 h3 h4 h5]
  generalize hb' : ({ b with til := minT now life } : Bd) = b'
  have b1 : b'.home = b.home := by rw [← hb']
  clear h0 h1 h2 h3 hv2
  refine loop_intro (mono_of LN1_ok) (fun s : RbS l b' now => (⟨[(0, one (.sl false l.length eBd.sz (rowF eBd l))), (1, one (.int .i64 now)), (6, one (.ptr 0 0 0 false)), (10, one (.os 7 0 s.out.length)), (11, one (.bool s.done)), (50, one (.sl false l.length eBd.sz (rowF eBd l))), (51, one (.int .i64 (l.length : Int))), (52, one (.int .i64 (s.i : Int)))],
    [(0, some ⟨40, 1, 34, true, fun _ => eBd.cell b'⟩), (7, some (ents eBd 40 s.out))], 45⟩ : Hd)) (fun s => l.length - s.i) (fun _ => rfl) ?_ ⟨0, [], false, by omega, by simp, map_nil.symm⟩ [(7, none)] ?_
  · rintro ⟨i, out, done, hi, hno, hv⟩
    dsimp only at hi hno hv ⊢
    clear hb' b1
    repeat' (first | (apply And.intro <;> intro hc <;> (first | exact Bool.noConfusion hc | (simp only [decide_eq_true_eq, decide_eq_false_iff_not, Bool.not_eq_true', Bool.not_eq_false', beq_iff_eq, beq_eq_false_iff_ne, bne_iff_ne, bne_eq_false_iff_eq, Bool.true_eq_false, Bool.false_eq_true, ne_eq, not_true_eq_false] at hc <;> first | exact absurd rfl hc | skip) | skip)) | (refine And.intro (by first | exact trivial | decide | omega | (dsimp only; omega) | exact fun _ _ => rfl | exact ⟨by assumption, by first | exact trivial | decide | omega | (dsimp only; omega)⟩) ?_) | (apply And.intro) | (intro s hs; (have hs' : s = ipC (l.getD i default).home b'.home := by (rw [hs]; dsimp only; refine ipC_congr (ip_rd fun k hk => ?_) (ip_rd fun k hk => ?_) <;> exact home_cell (by omega) hk)); clear hs; subst hs'))
    all_goals first
      | (have hlt : i < l.length := by omega
         first
           | (have g1 : ipC (l.getD i default).home b'.home = 0 := by assumption
              have g2 : b'.seq ≤ (l.getD i default).seq := by assumption
              have e : rbindL now b' false l = none := by rw [hv, drop_at hlt, rbindL, if_pos ⟨g1, g2⟩]; rfl
              rw [e]
              exact Done.mk (leF_tup ⟨leC_nils_sl rfl, leC_int rfl, trivial⟩))
           | (have g0 : ¬ (ipC (l.getD i default).home b'.home = 0 ∧ b'.seq ≤ (l.getD i default).seq) := by
                first
                  | (have g1 : ¬ ipC (l.getD i default).home b'.home = 0 := by assumption
                     exact fun h => g1 h.1)
                  | (have g2 : ¬ b'.seq ≤ (l.getD i default).seq := by assumption
                     exact fun h => g2 h.2)
              have est := hv
              rw [drop_at hlt, rbindL, if_neg g0, map_app] at est
              first
                | (have k1 : 0 ≤ ipC (l.getD i default).home b'.home := by assumption
                   have k2 : done = false := by assumption
                   rw [if_pos ⟨k1, k2⟩, decide_eq_true k1, Bool.or_true] at est
                   first
                     | (have k3 : ¬ ipC (l.getD i default).home b'.home = 0 := by assumption
                        have k4 : now < (l.getD i default).til := by assumption
                        rw [if_pos ⟨k3, k4⟩] at est
                        refine ⟨⟨i + 1, out ++ [b', l.getD i default], true, by omega, by simp; omega, est⟩, [(7, some 88)], by dsimp only; omega, rfl, ?_, ?_⟩
                        · repeat' (first | exact trivial | exact rfl | exact leF_ptr rfl | exact leF_int rfl | exact leF_bool rfl | exact leF_cl (cl_slB _ _) | exact leF_cl (cl_slR _ _) | exact leF_cl (cl_ll _ _) | exact leF_c (leC_os rfl rfl) | refine leF_int ?_ | refine leF_bool ?_ | exact leN_varA (fun _ _ => (Elem.flat _ _ _).le) | exact leN_varA (fun _ _ => leC_top) | apply And.intro)
                          · exact leF_c (leC_os rfl (by simp))
                          · first | (dsimp only; rw [IntWalk.i64_in _ (by omega)]; omega) | (dsimp only; rw [IntWalk.i64_in _ (by omega)]; done) | (dsimp only; exact IntWalk.i64_in _ (by omega)) | exact IntWalk.i64_in _ (by omega) | (rw [IntWalk.i64_in _ (by omega)]; omega)
                        · repeat' (first | exact trivial | exact rfl | exact leF_ptr rfl | exact leF_int rfl | exact leF_bool rfl | exact leF_cl (cl_slB _ _) | exact leF_cl (cl_slR _ _) | exact leF_cl (cl_ll _ _) | exact leF_c (leC_os rfl rfl) | refine leF_int ?_ | refine leF_bool ?_ | exact leN_varA (fun _ _ => (Elem.flat _ _ _).le) | exact leN_varA (fun _ _ => leC_top) | apply And.intro)
                          change LeN _ _ _
                          refine leN_snoc2 (E := eBd) (L := out) (x := b') (y := l.getD i default) rfl (fun q hq j hj => selC_in (blt_lt (by omega)) (selC_in (blt_lt hq) (Elem.flat _ _ _).le)) ?_ ?_
                          · repeat' (first | exact trivial | (refine selC_in (blt_lt (by omega)) (selC_out (blt_self _) ?_); rw [Nat.sub_self]; exact leC_int rfl) | apply And.intro)
                          · repeat' (first | exact trivial | (refine selC_out (blt_self _) ?_; rw [Nat.sub_self]; exact leC_int rfl) | apply And.intro))
                     | (have k3 : ¬ (ipC (l.getD i default).home b'.home ≠ 0 ∧ now < (l.getD i default).til) := by
                          first
                            | (have k3 : ipC (l.getD i default).home b'.home = 0 := by assumption
                               exact fun h => h.1 k3)
                            | (have k4 : ¬ now < (l.getD i default).til := by assumption
                               exact fun h => k4 h.2)
                        rw [if_neg k3, List.append_nil] at est
                        refine ⟨⟨i + 1, out ++ [b'], true, by omega, by simp; omega, est⟩, [(7, some 74)], by dsimp only; omega, rfl, ?_, ?_⟩
                        · repeat' (first | exact trivial | exact rfl | exact leF_ptr rfl | exact leF_int rfl | exact leF_bool rfl | exact leF_cl (cl_slB _ _) | exact leF_cl (cl_slR _ _) | exact leF_cl (cl_ll _ _) | exact leF_c (leC_os rfl rfl) | refine leF_int ?_ | refine leF_bool ?_ | exact leN_varA (fun _ _ => (Elem.flat _ _ _).le) | exact leN_varA (fun _ _ => leC_top) | apply And.intro)
                          · exact leF_c (leC_os rfl (by simp))
                          · first | (dsimp only; rw [IntWalk.i64_in _ (by omega)]; omega) | (dsimp only; rw [IntWalk.i64_in _ (by omega)]; done) | (dsimp only; exact IntWalk.i64_in _ (by omega)) | exact IntWalk.i64_in _ (by omega) | (rw [IntWalk.i64_in _ (by omega)]; omega)
                        · repeat' (first | exact trivial | exact rfl | exact leF_ptr rfl | exact leF_int rfl | exact leF_bool rfl | exact leF_cl (cl_slB _ _) | exact leF_cl (cl_slR _ _) | exact leF_cl (cl_ll _ _) | exact leF_c (leC_os rfl rfl) | refine leF_int ?_ | refine leF_bool ?_ | exact leN_varA (fun _ _ => (Elem.flat _ _ _).le) | exact leN_varA (fun _ _ => leC_top) | apply And.intro)
                          (change LeN _ _ _; refine leN_snoc (E := eBd) (L := out) (x := b') rfl (fun i hi j hj => selC_in (Nat.ble_eq_true_of_le hi) (Elem.flat _ _ _).le) ?_; repeat' (first | exact trivial | (refine selC_out (blt_self _) ?_; rw [Nat.sub_self]; first | exact leC_int rfl | exact leC_bool rfl | exact leC_bool (by assumption)) | apply And.intro))))
                | (have k1 : ¬ (0 ≤ ipC (l.getD i default).home b'.home ∧ done = false) := by
                     first
                       | (have k1 : ¬ 0 ≤ ipC (l.getD i default).home b'.home := by assumption
                          exact fun h => k1 h.1)
                       | (have k2 : done = true := by assumption
                          exact fun h => by rw [k2] at h; cases h.2)
                   have k2 : (done || decide (0 ≤ ipC (l.getD i default).home b'.home)) = done := by
                     first
                       | (have k1 : ¬ 0 ≤ ipC (l.getD i default).home b'.home := by assumption
                          rw [decide_eq_false k1, Bool.or_false])
                       | (have k2 : done = true := by assumption
                          rw [k2, Bool.true_or])
                   rw [if_neg k1, k2, List.nil_append] at est
                   first
                     | (have k3 : ¬ ipC (l.getD i default).home b'.home = 0 := by assumption
                        have k4 : now < (l.getD i default).til := by assumption
                        rw [if_pos ⟨k3, k4⟩] at est
                        refine ⟨⟨i + 1, out ++ [l.getD i default], done, by omega, by simp; omega, est⟩, [(7, some 82)], by dsimp only; omega, rfl, ?_, ?_⟩
                        · repeat' (first | exact trivial | exact rfl | exact leF_ptr rfl | exact leF_int rfl | exact leF_bool rfl | exact leF_cl (cl_slB _ _) | exact leF_cl (cl_slR _ _) | exact leF_cl (cl_ll _ _) | exact leF_c (leC_os rfl rfl) | refine leF_int ?_ | refine leF_bool ?_ | exact leN_varA (fun _ _ => (Elem.flat _ _ _).le) | exact leN_varA (fun _ _ => leC_top) | apply And.intro)
                          · exact leF_c (leC_os rfl (by simp))
                          · first | (dsimp only; rw [IntWalk.i64_in _ (by omega)]; omega) | (dsimp only; rw [IntWalk.i64_in _ (by omega)]; done) | (dsimp only; exact IntWalk.i64_in _ (by omega)) | exact IntWalk.i64_in _ (by omega) | (rw [IntWalk.i64_in _ (by omega)]; omega)
                        · repeat' (first | exact trivial | exact rfl | exact leF_ptr rfl | exact leF_int rfl | exact leF_bool rfl | exact leF_cl (cl_slB _ _) | exact leF_cl (cl_slR _ _) | exact leF_cl (cl_ll _ _) | exact leF_c (leC_os rfl rfl) | refine leF_int ?_ | refine leF_bool ?_ | exact leN_varA (fun _ _ => (Elem.flat _ _ _).le) | exact leN_varA (fun _ _ => leC_top) | apply And.intro)
                          (change LeN _ _ _; refine leN_snoc (E := eBd) (L := out) (x := l.getD i default) rfl (fun i hi j hj => selC_in (Nat.ble_eq_true_of_le hi) (Elem.flat _ _ _).le) ?_; repeat' (first | exact trivial | (refine selC_out (blt_self _) ?_; rw [Nat.sub_self]; first | exact leC_int rfl | exact leC_bool rfl | exact leC_bool (by assumption)) | apply And.intro)))
                     | (have k3 : ¬ (ipC (l.getD i default).home b'.home ≠ 0 ∧ now < (l.getD i default).til) := by
                          first
                            | (have k3 : ipC (l.getD i default).home b'.home = 0 := by assumption
                               exact fun h => h.1 k3)
                            | (have k4 : ¬ now < (l.getD i default).til := by assumption
                               exact fun h => k4 h.2)
                        rw [if_neg k3, List.append_nil] at est
                        refine ⟨⟨i + 1, out, done, by omega, by omega, est⟩, [], by dsimp only; omega, rfl, ?_, ?_⟩
                        · repeat' (first | exact trivial | exact rfl | exact leF_ptr rfl | exact leF_int rfl | exact leF_bool rfl | exact leF_cl (cl_slB _ _) | exact leF_cl (cl_slR _ _) | exact leF_cl (cl_ll _ _) | exact leF_c (leC_os rfl rfl) | refine leF_int ?_ | refine leF_bool ?_ | exact leN_varA (fun _ _ => (Elem.flat _ _ _).le) | exact leN_varA (fun _ _ => leC_top) | apply And.intro)
                          first | (dsimp only; rw [IntWalk.i64_in _ (by omega)]; omega) | (dsimp only; rw [IntWalk.i64_in _ (by omega)]; done) | (dsimp only; exact IntWalk.i64_in _ (by omega)) | exact IntWalk.i64_in _ (by omega) | (rw [IntWalk.i64_in _ (by omega)]; omega)
                        · repeat' (first | exact trivial | exact rfl | exact leF_ptr rfl | exact leF_int rfl | exact leF_bool rfl | exact leF_cl (cl_slB _ _) | exact leF_cl (cl_slR _ _) | exact leF_cl (cl_ll _ _) | exact leF_c (leC_os rfl rfl) | refine leF_int ?_ | refine leF_bool ?_ | exact leN_varA (fun _ _ => (Elem.flat _ _ _).le) | exact leN_varA (fun _ _ => leC_top) | apply And.intro)
                          exact leN_ents))))
      | (have hil : i = l.length := by omega
         first
           | (have hP : done = false := by assumption
              have e : rbindL now b' false l = some (out ++ [b']) := by rw [hv, hil, List.drop_length, rbindL, hP]; rfl
              rw [e]
              first
                | (have hF : (32 : Int) < ((out.length + 1 : Nat) : Int) := by assumption
                   rw [show bindE (some (out ++ [b'])) = ([], 10) from if_neg (by simp; omega)]
                   exact Done.mk (leF_tup ⟨leC_nils_sl rfl, leC_int rfl, trivial⟩))
                | (have hF : ¬ (32 : Int) < ((out.length + 1 : Nat) : Int) := by assumption
                   rw [show bindE (some (out ++ [b'])) = (out ++ [b'], 0) from if_pos (by simp; omega)]
                   refine Done.mk (leF_tup ⟨leC_fin (t := 40) rfl rfl (by simp) ?_, leC_int rfl, trivial⟩)
                   (change LeN _ _ _; refine leN_snoc (E := eBd) (L := out) (x := b') rfl (fun i hi j hj => selC_in (Nat.ble_eq_true_of_le hi) (Elem.flat _ _ _).le) ?_; repeat' (first | exact trivial | (refine selC_out (blt_self _) ?_; rw [Nat.sub_self]; first | exact leC_int rfl | exact leC_bool rfl | exact leC_bool (by assumption)) | apply And.intro))))
           | (have hP : done = true := by assumption
              have e : rbindL now b' false l = some out := by rw [hv, hil, List.drop_length, rbindL, hP]; simp
              rw [e]
              first
                | (have hF : (32 : Int) < (out.length : Int) := by assumption
                   rw [show bindE (some out) = ([], 10) from if_neg (by omega)]
                   exact Done.mk (leF_tup ⟨leC_nils_sl rfl, leC_int rfl, trivial⟩))
                | (have hF : ¬ (32 : Int) < (out.length : Int) := by assumption
                   rw [show bindE (some out) = (out, 0) from if_pos (by omega)]
                   exact Done.mk (leF_tup ⟨leC_row_fin rfl rfl, leC_int rfl, trivial⟩))))
  · refine ⟨rfl, ?_, ?_⟩
    · repeat' (first | exact trivial | exact rfl | exact leF_ptr rfl | exact leF_int rfl | exact leF_bool rfl | exact leF_cl (cl_slB _ _) | exact leF_cl (cl_slR _ _) | exact leF_cl (cl_ll _ _) | exact leF_c (leC_os rfl rfl) | refine leF_int ?_ | refine leF_bool ?_ | exact leN_varA (fun _ _ => (Elem.flat _ _ _).le) | exact leN_varA (fun _ _ => leC_top) | apply And.intro)
      exact leF_c (leC_nils_os rfl)
    · repeat' (first | exact trivial | exact rfl | exact leF_ptr rfl | exact leF_int rfl | exact leF_bool rfl | exact leF_cl (cl_slB _ _) | exact leF_cl (cl_slR _ _) | exact leF_cl (cl_ll _ _) | exact leF_c (leC_os rfl rfl) | refine leF_int ?_ | refine leF_bool ?_ | exact leN_varA (fun _ _ => (Elem.flat _ _ _).le) | exact leN_varA (fun _ _ => leC_top) | apply And.intro)
      · subst hb'
        refine leN_var ?_
        repeat' (first | exact trivial | exact leC_int rfl | apply And.intro)
      · exact eBd_sz
end Go.Proofs.Yteacebocjafinaa.AX

/- Following bindings: plain laws. -/
namespace Go.Proofs.Yteacebocjafinaa.AX
open Go.RowKit
set_option linter.unusedVariables false
set_option linter.unusedSimpArgs false
section
variable {α : Type} (f : α → Option α)
/-- At most n + 1 steps along f, to where it leads no more. -/
def folN : Nat → α → Option α
  | 0, a => match f a with
    | none => some a
    | some _ => none
  | n + 1, a => match f a with
    | none => some a
    | some p => folN n p
variable {f}
theorem folN_end {a : α} (h : f a = none) : ∀ n, folN f n a = some a := by
  intro n
  cases n <;> simp [folN, h]
theorem folN_step {a p : α} (h : f a = some p) (n : Nat) : folN f (n + 1) a = folN f n p := by simp [folN, h]
theorem folN_last {a p : α} (h : f a = some p) : folN f 0 a = none := by simp [folN, h]
theorem fol_closed {V : List α} (hc : ∀ x ∈ V, ∃ p, f x = some p ∧ p ∈ V) : ∀ (n : Nat) (a : α), a ∈ V → folN f n a = none := by
  intro n
  induction n with
  | zero => intro a ha; obtain ⟨p, hp, _⟩ := hc a ha; exact folN_last hp
  | succ n ih => intro a ha; obtain ⟨p, hp, hm⟩ := hc a ha; rw [folN_step hp]; exact ih p hm
theorem nodup_len : ∀ (V B : List α), V.Nodup → (∀ x ∈ V, x ∈ B) → V.length ≤ B.length := by
  intro V
  induction V with
  | nil => intro B _ _; exact Nat.zero_le _
  | cons x V ih =>
    intro B hn hs
    obtain ⟨s, t, rfl⟩ := List.append_of_mem (hs x (by simp))
    have h1 := List.nodup_cons.1 hn
    have h2 := ih (s ++ t) h1.2 fun y hy => by
      have := hs y (by simp [hy])
      simp only [List.mem_append, List.mem_cons] at this ⊢
      rcases this with h | rfl | h
      · exact .inl h
      · exact absurd hy h1.1
      · exact .inr h
    simp only [List.length_append, List.length_cons] at h2 ⊢
    omega
theorem fol_stable {B : List α} (hB : ∀ x p, f x = some p → x ∈ B) : ∀ (d : Nat) (V : List α) (a : α), V.Nodup → (∀ x ∈ V, ∃ p, f x = some p ∧ (p ∈ V ∨ p = a)) → B.length ≤ V.length + d → ∀ m n, d ≤ m → d ≤ n → folN f m a = folN f n a := by
  intro d
  induction d with
  | zero =>
    intro V a hn hc hd m n hm hn'
    by_cases ha : a ∈ V
    · have hc' : ∀ x ∈ V, ∃ p, f x = some p ∧ p ∈ V := fun x hx => by
        obtain ⟨p, h1, h2⟩ := hc x hx
        exact ⟨p, h1, h2.elim id fun h => h ▸ ha⟩
      rw [fol_closed hc' m a ha, fol_closed hc' n a ha]
    · cases hf : f a with
      | none => rw [folN_end hf, folN_end hf]
      | some p =>
        have := nodup_len (a :: V) B (List.nodup_cons.2 ⟨ha, hn⟩) fun x hx => by
          rcases List.mem_cons.1 hx with rfl | hx
          · exact hB _ _ hf
          · obtain ⟨p, h1, _⟩ := hc x hx; exact hB _ _ h1
        simp only [List.length_cons] at this
        omega
  | succ d ih =>
    intro V a hn hc hd m n hm hn'
    by_cases ha : a ∈ V
    · have hc' : ∀ x ∈ V, ∃ p, f x = some p ∧ p ∈ V := fun x hx => by
        obtain ⟨p, h1, h2⟩ := hc x hx
        exact ⟨p, h1, h2.elim id fun h => h ▸ ha⟩
      rw [fol_closed hc' m a ha, fol_closed hc' n a ha]
    · cases hf : f a with
      | none => rw [folN_end hf, folN_end hf]
      | some p =>
        obtain ⟨m, rfl⟩ : ∃ k, m = k + 1 := ⟨m - 1, by omega⟩
        obtain ⟨n, rfl⟩ : ∃ k, n = k + 1 := ⟨n - 1, by omega⟩
        rw [folN_step hf, folN_step hf]
        refine ih (a :: V) p (List.nodup_cons.2 ⟨ha, hn⟩) (fun x hx => ?_) (by simp only [List.length_cons]; omega) m n (by omega) (by omega)
        rcases List.mem_cons.1 hx with rfl | hx
        · exact ⟨p, hf, .inr rfl⟩
        · obtain ⟨q, h1, h2⟩ := hc x hx
          refine ⟨q, h1, .inl ?_⟩
          rcases h2 with h2 | rfl
          · exact List.mem_cons_of_mem _ h2
          · exact List.mem_cons_self
/-- The walk that notes what it has visited. -/
structure FolI (B : List α) (N : Nat) (home : α) (V : List α) (a : α) : Prop where
  nd : V.Nodup
  cl : ∀ x ∈ V, ∃ p, f x = some p ∧ (p ∈ V ∨ p = a)
  hm : home ∈ V ∨ home = a
  hN : B.length ≤ N
  eq : folN f N home = folN f (N - V.length) a
theorem FolI.len {B : List α} {N : Nat} {home a : α} {V : List α} (hB : ∀ x p, f x = some p → x ∈ B) (h : FolI (f := f) B N home V a) : V.length ≤ B.length := nodup_len V B h.nd fun x hx => by
  obtain ⟨p, h1, _⟩ := h.cl x hx; exact hB _ _ h1
theorem FolI.circle {B : List α} {N : Nat} {home a : α} {V : List α} (h : FolI (f := f) B N home V a) (ha : a ∈ V) : folN f N home = none := by
  refine fol_closed (V := V) (fun x hx => ?_) N home (h.hm.elim id fun e => e ▸ ha)
  obtain ⟨p, h1, h2⟩ := h.cl x hx
  exact ⟨p, h1, h2.elim id fun h => h ▸ ha⟩
theorem FolI.stop {B : List α} {N : Nat} {home a : α} {V : List α} (h : FolI (f := f) B N home V a) (ha : f a = none) : folN f N home = some a := h.eq.trans (folN_end ha _)
theorem FolI.go {B : List α} {N : Nat} {home a p : α} {V : List α} (hB : ∀ x p, f x = some p → x ∈ B) (h : FolI (f := f) B N home V a) (ha : a ∉ V) (hp : f a = some p) : FolI (f := f) B N home (V ++ [a]) p ∧ V.length < N := by
  have h2 := nodup_len (a :: V) B (List.nodup_cons.2 ⟨ha, h.nd⟩) fun x hx => by
    rcases List.mem_cons.1 hx with rfl | hx
    · exact hB _ _ hp
    · obtain ⟨p, h1, _⟩ := h.cl x hx; exact hB _ _ h1
  simp only [List.length_cons] at h2
  have h3 := h.hN
  refine ⟨⟨?_, fun x hx => ?_, ?_, h.hN, ?_⟩, by omega⟩
  · rw [List.nodup_append]
    refine ⟨h.nd, by simp, fun x hx y hy => ?_⟩
    rw [List.mem_singleton.1 hy]
    exact fun e => ha (e ▸ hx)
  · rw [List.mem_append, List.mem_singleton] at hx
    rcases hx with hx | rfl
    · obtain ⟨q, h4, h5⟩ := h.cl x hx
      refine ⟨q, h4, .inl ?_⟩
      rw [List.mem_append, List.mem_singleton]
      exact h5
    · exact ⟨p, hp, .inr rfl⟩
  · refine .inl ?_
    rw [List.mem_append, List.mem_singleton]
    exact h.hm
  · rw [h.eq, show N - V.length = (N - (V ++ [a]).length) + 1 by simp only [List.length_append, List.length_singleton]; omega, folN_step hp]
end
/-! ### bindings -/
def nxt (l : List Bd) (now : Int) (a : Fin 16 → Int) : Option (Fin 16 → Int) := match findP now a l with
  | (p, true) => some p
  | (_, false) => none
/-- The errors: 1 not valid, 2 out of range, 11 a circle. -/
def followF (l : List Bd) (now : Int) (home : Fin 16 → Int) : (Fin 16 → Int) × Int :=
  if bvalid l = true then if vt now = true then match folN (nxt l now) l.length home with
    | some a => (a, 0)
    | none => (ip0, 11)
  else (ip0, 2) else (ip0, 1)
theorem findP_mem {now : Int} {a p : Fin 16 → Int} : ∀ {l : List Bd}, findP now a l = (p, true) → ∃ b ∈ l, b.home = a ∧ now < b.til ∧ p = b.place := by
  intro l
  induction l with
  | nil => intro h; cases h
  | cons b l ih =>
    intro h
    rw [findP] at h
    by_cases hc : ipEq b.home a = true ∧ now < b.til
    · rw [if_pos hc] at h
      injection h with h _
      exact ⟨b, by simp, ipEq_iff.1 hc.1, hc.2, h.symm⟩
    · rw [if_neg hc] at h
      obtain ⟨b', h1, h2⟩ := ih h
      exact ⟨b', by simp [h1], h2⟩
theorem nxt_some {l : List Bd} {now : Int} {a p : Fin 16 → Int} : nxt l now a = some p ↔ findP now a l = (p, true) := by
  unfold nxt
  constructor
  · intro h
    split at h
    · rename_i q h1; injection h with h; rw [h1, h]
    · cases h
  · intro h; rw [h]
theorem nxt_none {l : List Bd} {now : Int} {a : Fin 16 → Int} : nxt l now a = none ↔ (findP now a l).2 = false := by
  unfold nxt
  constructor
  · intro h
    split at h
    · cases h
    · rename_i h1; rw [h1]
  · intro h
    split
    · rename_i h1; rw [h1] at h; cases h
    · rfl
theorem nxt_home {l : List Bd} {now : Int} (x p : Fin 16 → Int) (h : nxt l now x = some p) : x ∈ l.map (·.home) := by
  obtain ⟨b, h1, h2, _⟩ := findP_mem (nxt_some.1 h)
  exact List.mem_map.2 ⟨b, h1, h2⟩
theorem fol_same {l : List Bd} {now : Int} {home : Fin 16 → Int} {m n : Nat} (hm : l.length ≤ m) (hn : l.length ≤ n) : folN (nxt l now) m home = folN (nxt l now) n home :=
  fol_stable (B := l.map (·.home)) nxt_home l.length [] home List.nodup_nil (fun x hx => by cases hx) (by simp) m n hm hn
theorem folI_0 {l : List Bd} {now : Int} {home : Fin 16 → Int} : FolI (f := nxt l now) (l.map (·.home)) l.length home [] home :=
  ⟨List.nodup_nil, fun x hx => (by cases hx), .inr rfl, by simp, rfl⟩
/-! ### the map of the places -/
theorem findI_at {p : Nat → Bool} : ∀ (n i : Nat), (∀ k, i ≤ k → k < i + n → p k = false) → findI p n i = i + n := by
  intro n
  induction n with
  | zero => intro i _; rfl
  | succ n ih =>
    intro i h
    show (bif p i then i else findI p n (i + 1)) = _
    rw [h i (Nat.le_refl _) (by omega), cond_false, ih (i + 1) fun k h1 h2 => h k (by omega) (by omega)]
    omega
theorem findI_first {p : Nat → Bool} {j : Nat} (hj : p j = true) : ∀ (n i : Nat), i ≤ j → j < i + n → (∀ k, i ≤ k → k < j → p k = false) → findI p n i = j := by
  intro n
  induction n with
  | zero => intro i h1 h2 _; omega
  | succ n ih =>
    intro i h1 h2 h
    show (bif p i then i else findI p n (i + 1)) = j
    by_cases e : i = j
    · subst e; rw [hj]; rfl
    · rw [h i (Nat.le_refl _) (by omega), cond_false]
      exact ih (i + 1) (by omega) (by omega) fun k g1 g2 => h k (by omega) g2
theorem findI_any {p : Nat → Bool} : ∀ (n i : Nat), findI p n i < i + n ↔ ∃ k, i ≤ k ∧ k < i + n ∧ p k = true := by
  intro n
  induction n with
  | zero => intro i; constructor
            · intro h; exact absurd h (Nat.lt_irrefl _)
            · rintro ⟨k, h1, h2, _⟩; omega
  | succ n ih =>
    intro i
    show (bif p i then i else findI p n (i + 1)) < _ ↔ _
    cases hp : p i with
    | true => exact ⟨fun _ => ⟨i, Nat.le_refl _, by omega, hp⟩, fun _ => by show i < _; omega⟩
    | false =>
      have := ih (i + 1)
      rw [cond_false, show i + (n + 1) = i + 1 + n by omega, this]
      constructor
      · rintro ⟨k, h1, h2, h3⟩; exact ⟨k, by omega, h2, h3⟩
      · rintro ⟨k, h1, h2, h3⟩
        refine ⟨k, ?_, h2, h3⟩
        rcases Nat.lt_or_ge i k with h | h
        · exact h
        · rw [show k = i by omega, hp] at h3; cases h3
theorem eqFrom16 {g h : Nat → CV} {a b : Fin 16 → Int} (hg : ∀ i, i < 16 → g i = .int .u8 (vget a i)) (hh : ∀ i, i < 16 → h i = .int .u8 (vget b i)) : eqFrom g h 16 0 = true ↔ a = b := by
  rw [eqFrom_iff]
  constructor
  · intro e
    funext q
    have := e q.1 q.2
    rw [Nat.zero_add, hg _ q.2, hh _ q.2] at this
    simp only [eqCell, beq_iff_eq] at this
    rw [vget_lt _ q.2, vget_lt _ q.2] at this
    exact this
  · rintro rfl i hi
    rw [Nat.zero_add, hg _ hi, hh _ hi]
    simp [eqCell]
/-- Where an address is found among the current bindings. -/
theorem find_cur {now : Int} {a : Fin 16 → Int} {l : List Bd} {p : Nat → Bool} (hp : ∀ k, k < (keepB now l).length → (p k = true ↔ ((keepB now l).getD k default).home = a)) :
    (findI p (keepB now l).length 0 = (keepB now l).length ∧ nxt l now a = none) ∨ (findI p (keepB now l).length 0 < (keepB now l).length ∧ nxt l now a = some ((keepB now l).getD (findI p (keepB now l).length 0) default).place) := by
  have key : ∀ (M : List Bd) (i : Nat) (q : Nat → Bool), (∀ k, k < M.length → (q (i + k) = true ↔ (M.getD k default).home = a)) → (∀ b ∈ M, now < b.til) →
      (findI q M.length i = i + M.length ∧ (findP now a M).2 = false) ∨ (∃ k, k < M.length ∧ findI q M.length i = i + k ∧ findP now a M = ((M.getD k default).place, true)) := by
    intro M
    induction M with
    | nil => intro i q _ _; exact .inl ⟨rfl, rfl⟩
    | cons b M ih =>
      intro i q hq ht
      have h0 := hq 0 (by simp)
      have ht0 := ht b (by simp)
      show ((bif q i then i else findI q M.length (i + 1)) = _ ∧ _) ∨ (∃ k, _ ∧ (bif q i then i else findI q M.length (i + 1)) = _ ∧ _)
      rw [Nat.add_zero] at h0
      cases hqi : q i with
      | true =>
        have e : b.home = a := h0.1 hqi
        exact .inr ⟨0, by simp, by simp, by rw [findP, if_pos ⟨ipEq_iff.2 e, ht0⟩]; rfl⟩
      | false =>
        have e : ¬ (ipEq b.home a = true ∧ now < b.til) := fun h => by
          have := h0.2 (ipEq_iff.1 h.1)
          rw [hqi] at this; cases this
        rw [cond_false, findP, if_neg e]
        rcases ih (i + 1) q (fun k hk => by have := hq (k + 1) (by simp; omega); rwa [show i + (k + 1) = i + 1 + k by omega] at this) (fun b hb => ht b (by simp [hb])) with ⟨h1, h2⟩ | ⟨k, h1, h2, h3⟩
        · exact .inl ⟨by rw [h1]; simp; omega, h2⟩
        · exact .inr ⟨k + 1, by simp; omega, by rw [h2]; omega, by rw [h3]; rfl⟩
  have same : findP now a (keepB now l) = findP now a l := by
    unfold keepB
    clear key hp
    induction l with
    | nil => rfl
    | cons b l ih =>
      rw [List.filter_cons]
      by_cases h : now < b.til
      · rw [if_pos (by simpa using h), findP, findP, ih]
      · rw [if_neg (by simpa using h), ih, findP, if_neg fun h' => h h'.2]
  rcases key (keepB now l) 0 p (fun k hk => by rw [Nat.zero_add]; exact hp k hk) (fun b hb => by simpa [keepB] using (List.mem_filter.1 hb).2) with ⟨h1, h2⟩ | ⟨k, h1, h2, h3⟩
  · exact .inl ⟨by rw [h1, Nat.zero_add], nxt_none.2 (same ▸ h2)⟩
  · rw [Nat.zero_add] at h2
    rw [h2]
    exact .inr ⟨h1, nxt_some.2 (same ▸ h3)⟩
/-- A binding behind others of a valid list is none of theirs. -/
theorem bv_get {p : Option (Fin 16 → Int)} : ∀ {l : List Bd}, bvF p l = true → ∀ i j, i < j → j < l.length → (l.getD i default).home ≠ (l.getD j default).home := by
  intro l
  induction l generalizing p with
  | nil => intro _ i j _ h; simp at h
  | cons b l ih =>
    intro h i j hij hj
    obtain ⟨_, _, h3⟩ := bv_cons.1 h
    rcases j with _ | j
    · omega
    rcases i with _ | i
    · have := bv_above h3
      have hm : l.getD j default ∈ l := memB (by simpa using hj)
      intro e
      have h4 := this _ hm
      have e' : b.home = (l.getD j default).home := e
      rw [← e', ipC_self] at h4
      exact absurd h4 (by decide)
    · exact ih h3 i j (by omega) (by simpa using hj)
theorem cur_take {now : Int} {l : List Bd} {i : Nat} (hi : i < l.length) : keepB now (l.take (i + 1)) = keepB now (l.take i) ++ if now < (l.getD i default).til then [l.getD i default] else [] := by
  unfold keepB
  rw [List.take_add_one, List.filter_append, List.getElem?_eq_getElem hi]
  congr 1
  rw [List.getD_eq_getElem?_getD, List.getElem?_eq_getElem hi]
  simp only [Option.toList, Option.getD, List.filter_cons, List.filter_nil, decide_eq_true_eq]
theorem cur_new {now : Int} {l : List Bd} {i : Nat} (hv : bvF none l = true) (hi : i < l.length) {k : Nat} (hk : k < (keepB now (l.take i)).length) : ((keepB now (l.take i)).getD k default).home ≠ (l.getD i default).home := by
  have hm : (keepB now (l.take i)).getD k default ∈ l.take i := (List.mem_filter.1 (memB hk)).1
  obtain ⟨j, hj, e⟩ := List.mem_iff_getElem.1 hm
  rw [← e]
  have hj' : j < i := by simpa using (Nat.lt_of_lt_of_le hj (by simp; omega))
  have := bv_get hv j i hj' hi
  rw [List.getD_eq_getElem?_getD, List.getElem?_eq_getElem (by omega)] at this
  rw [List.getElem_take]
  exact this
theorem cur_len {now : Int} {l : List Bd} {i : Nat} : (keepB now (l.take i)).length ≤ i := Nat.le_trans (List.length_filter_le _ _) (by simp; omega)
/-! ### the laws -/
theorem placeF_v {l : List Bd} {now : Int} {home : Fin 16 → Int} (hv : bvalid l = true) (hn : vt now = true) : placeF l now home = findP now home l := if_pos ⟨hv, hn⟩
theorem bv_len32 {l : List Bd} (hv : bvalid l = true) : l.length ≤ 32 := by
  unfold bvalid at hv
  rw [Bool.and_eq_true, decide_eq_true_eq] at hv
  exact hv.1
theorem bv_f {l : List Bd} (hv : bvalid l = true) : bvF none l = true := by
  unfold bvalid at hv
  rw [Bool.and_eq_true] at hv
  exact hv.2
theorem followF_v {l : List Bd} {now : Int} {home : Fin 16 → Int} (hv : bvalid l = true) (hn : vt now = true) (m : Nat) (hm : 32 ≤ m) : followF l now home = match folN (nxt l now) m home with
    | some a => (a, 0)
    | none => (ip0, 11) := by
  have h := bv_len32 hv
  unfold followF
  rw [if_pos hv, if_pos hn, fol_same (m := l.length) (n := m) (Nat.le_refl _) (by omega)]
/-- Forty steps. -/
structure FlI (l : List Bd) (now : Int) (home : Fin 16 → Int) (i : Nat) (a : Fin 16 → Int) : Prop where
  h : i ≤ 39 ∧ folN (nxt l now) 39 home = folN (nxt l now) (39 - i) a ∨ i = 40 ∧ folN (nxt l now) 39 home = none
theorem flI_0 (l : List Bd) (now : Int) (home : Fin 16 → Int) : FlI l now home 0 home := ⟨.inl ⟨by decide, rfl⟩⟩
theorem FlI.go {l : List Bd} {now : Int} {home a p : Fin 16 → Int} {i : Nat} (h : FlI l now home i a) (hi : i < 40) (hp : findP now a l = (p, true)) : FlI l now home (i + 1) p := by
  have h1 := nxt_some.2 hp
  rcases h.h with ⟨h2, h3⟩ | ⟨h2, _⟩
  · by_cases h4 : i = 39
    · subst h4
      exact ⟨.inr ⟨rfl, h3.trans (folN_last h1)⟩⟩
    · refine ⟨.inl ⟨by omega, h3.trans ?_⟩⟩
      rw [show 39 - i = (39 - (i + 1)) + 1 by omega]
      exact folN_step h1 _
  · omega
theorem FlI.stop {l : List Bd} {now : Int} {home a : Fin 16 → Int} {i : Nat} (hv : bvalid l = true) (hn : vt now = true) (h : FlI l now home i a) (hi : i < 40) (hp : (findP now a l).2 = false) : followF l now home = (a, 0) := by
  rcases h.h with ⟨h2, h3⟩ | ⟨h2, _⟩
  · rw [followF_v hv hn 39 (by decide), h3, folN_end (nxt_none.2 hp)]
  · omega
theorem FlI.circle {l : List Bd} {now : Int} {home a : Fin 16 → Int} {i : Nat} (hv : bvalid l = true) (hn : vt now = true) (h : FlI l now home i a) (hi : ¬ i < 40) : followF l now home = (ip0, 11) := by
  rcases h.h with ⟨h2, h3⟩ | ⟨_, h3⟩
  · omega
  · rw [followF_v hv hn 39 (by decide), h3]
end Go.Proofs.Yteacebocjafinaa.AX

/- Package mobility: Follow (by AX2, with maps). -/
namespace Go.Proofs.Yteacebocjafinaa.AX
open Go.RowKit
set_option linter.unusedVariables false
set_option linter.unusedSimpArgs false
theorem blt_noF {a b : Nat} (h : b ≤ a) : Nat.blt a b = false := by
  cases hb : Nat.blt a b with
  | false => rfl
  | true => have := Nat.le_of_ble_eq_true hb; omega
def visF (V : List (Fin 16 → Int)) (i j : Nat) : CV := bif Nat.blt j 16 then .int .u8 (vget (V.getD i ip0) j) else .bool true
theorem vis_at (V : List (Fin 16 → Int)) (i : Nat) {j : Nat} (h : j < 16) : visF V i j = .int .u8 (vget (V.getD i ip0) j) := by
  unfold visF
  rw [show Nat.blt j 16 = true from Nat.ble_eq_true_of_le h]; rfl
theorem ip_cell (a : Fin 16 → Int) {j : Nat} (h : j < 16) : (eA .u8 16).cell a j = .int .u8 (vget a j) := rfl
theorem vis_in {V : List (Fin 16 → Int)} {a : Fin 16 → Int} {g : Nat → CV} (hg : ∀ j, j < 16 → g j = .int .u8 (vget a j)) : findI (fun i => eqFrom g (visF V i) 16 0) V.length 0 < V.length ↔ a ∈ V := by
  have h := findI_any (p := fun i => eqFrom g (visF V i) 16 0) V.length 0
  rw [Nat.zero_add] at h
  rw [h]
  constructor
  · rintro ⟨k, _, hk, he⟩
    rw [(eqFrom16 hg fun j hj => vis_at V k hj).1 he, List.getD_eq_getElem?_getD, List.getElem?_eq_getElem hk]
    exact List.getElem_mem hk
  · intro hm
    obtain ⟨k, hk, e⟩ := List.mem_iff_getElem.1 hm
    refine ⟨k, Nat.zero_le _, hk, (eqFrom16 hg fun j hj => vis_at V k hj).2 ?_⟩
    rw [List.getD_eq_getElem?_getD, List.getElem?_eq_getElem hk]
    exact e.symm
theorem vis_not {V : List (Fin 16 → Int)} {a : Fin 16 → Int} {g : Nat → CV} (hg : ∀ j, j < 16 → g j = .int .u8 (vget a j)) (h : a ∉ V) : findI (fun i => eqFrom g (visF V i) 16 0) V.length 0 = V.length := by
  have h1 := findI_le (fun i => eqFrom g (visF V i) 16 0) V.length 0
  have h2 : ¬ findI (fun i => eqFrom g (visF V i) 16 0) V.length 0 < V.length := fun hl => h ((vis_in hg).1 hl)
  omega
theorem leN_put {c : Wc} {t : TypeId} {n n' sz : Nat} {p : Nat → Bool} {G : Nat → CV} {f F : Nat → Nat → CV} (hp : findI p n 0 = n) (hn : n' = n + 1) (h1 : ∀ i, i < n → ∀ j, j < sz → LeC c (f i j) (F i j)) (h2 : ∀ j, j < sz → LeC c (G j) (F n j)) :
    LeN c ⟨t, bif Nat.blt (findI p n 0) n then n else findI p n 0 + 1, sz, false, fun i j => selC (Nat.beq i (findI p n 0)) (G j) (f i j)⟩ ⟨t, n', sz, false, F⟩ := by
  rw [hp, blt_self, cond_false, hn]
  refine leN_row rfl fun i hi j hj => ?_
  by_cases e : i = n
  · subst e
    rw [beq_of rfl, selC_true]
    exact h2 j hj
  · rw [beq_ne e, selC_false]
    exact h1 i (by omega) j hj
theorem leN_vis {c : Wc} {t : TypeId} {V : List (Fin 16 → Int)} {a : Fin 16 → Int} {g : Nat → CV} (hg : ∀ j, j < 16 → g j = .int .u8 (vget a j)) (h : a ∉ V) :
    LeN c ⟨t, bif Nat.blt (findI (fun i => eqFrom g (visF V i) 16 0) V.length 0) V.length then V.length else findI (fun i => eqFrom g (visF V i) 16 0) V.length 0 + 1, 17, false, fun i j => selC (Nat.beq i (findI (fun i => eqFrom g (visF V i) 16 0) V.length 0)) (bif Nat.blt j 16 then g j else CV.bool true) (visF V i j)⟩ ⟨t, (V ++ [a]).length, 17, false, visF (V ++ [a])⟩ := by
  refine leN_put (vis_not hg h) (by simp) (fun i hi j hj => ?_) fun j hj => ?_
  · have e : visF (V ++ [a]) i j = visF V i j := by
      unfold visF
      rw [List.getD_eq_getElem?_getD, List.getD_eq_getElem?_getD, List.getElem?_append_left hi]
    rw [e]
    unfold visF
    cases Nat.blt j 16 with
    | true => exact leC_int rfl
    | false => exact leC_bool rfl
  · unfold visF
    rw [List.getD_eq_getElem?_getD, List.getElem?_append_right (Nat.le_refl _), Nat.sub_self]
    by_cases hj2 : j < 16
    · rw [show Nat.blt j 16 = true from Nat.ble_eq_true_of_le hj2, cond_true, cond_true, hg j hj2]
      exact leC_int rfl
    · have hb : Nat.blt j 16 = false := by
        cases hb : Nat.blt j 16 with
        | false => rfl
        | true => exact absurd (Nat.le_of_ble_eq_true hb) hj2
      rw [hb, cond_false, cond_false]
      exact leC_bool rfl
/-- The cells of a binding's two addresses. -/
theorem two_cell (x : Bd) {j : Nat} (h : j < 32) : (bif Nat.blt j 16 then eBd.cell x (0 + j) else eBd.cell x (16 + (j - 16))) = eBd.cell x j := by
  by_cases hj : j < 16
  · rw [show Nat.blt j 16 = true from Nat.ble_eq_true_of_le hj, cond_true, Nat.zero_add]
  · have hb : Nat.blt j 16 = false := by
      cases hb : Nat.blt j 16 with
      | false => rfl
      | true => exact absurd (Nat.le_of_ble_eq_true hb) hj
    rw [hb, cond_false, show 16 + (j - 16) = j by omega]
theorem cur_none {l : List Bd} {now : Int} {i : Nat} (hv : bvF none l = true) (hi : i < l.length) {g : Nat → CV} (hg : ∀ j, j < 16 → g j = .int .u8 (vget (l.getD i default).home j)) : findI (fun k => eqFrom g (rowF eBd (keepB now (l.take i)) k) 16 0) (keepB now (l.take i)).length 0 = (keepB now (l.take i)).length := by
  have h := findI_at (p := fun k => eqFrom g (rowF eBd (keepB now (l.take i)) k) 16 0) (keepB now (l.take i)).length 0 fun k _ hk => by
    rw [Nat.zero_add] at hk
    rw [Bool.eq_false_iff]
    intro he
    refine cur_new hv hi hk ((eqFrom16 (b := ((keepB now (l.take i)).getD k default).home) hg fun j hj => ?_).1 he).symm
    have := eBd_home_at ((keepB now (l.take i)).getD k default) j hj
    rw [Nat.zero_add] at this
    exact this
  rw [Nat.zero_add] at h
  exact h
theorem find_row {l : List Bd} {now : Int} {a : Fin 16 → Int} {g : Nat → CV} (hg : ∀ j, j < 16 → g j = .int .u8 (vget a j)) {M : List Bd} (hM : M = keepB now l) :
    (findI (fun k => eqFrom g (rowF eBd M k) 16 0) M.length 0 = M.length ∧ nxt l now a = none) ∨ (findI (fun k => eqFrom g (rowF eBd M k) 16 0) M.length 0 < M.length ∧ nxt l now a = some (M.getD (findI (fun k => eqFrom g (rowF eBd M k) 16 0) M.length 0) default).place) := by
  subst hM
  refine find_cur fun k hk => ?_
  rw [eqFrom16 (b := ((keepB now l).getD k default).home) hg fun j hj => ?_]
  · exact eq_comm
  · have := eBd_home_at ((keepB now l).getD k default) j hj
    rw [Nat.zero_add] at this
    exact this
def encFo (r : (Fin 16 → Int) × Int) : FV := .tup [.agg 16 ((eA .u8 16).cell r.1), .c (.int .i64 r.2)]
structure Fo2 (l : List Bd) (now : Int) (home : Fin 16 → Int) where
  V : List (Fin 16 → Int)
  a : Fin 16 → Int
  h : FolI (f := nxt l now) (l.map (·.home)) l.length home V a
set_option maxHeartbeats 4000000 in
set_option maxRecDepth 20000 in
theorem follow_ok (l : List Bd) (now : Int) (home : Fin 16 → Int) (hl : bdL l) : PureOk Try.prog 10 [(cSl eBd eBd_sz).enc l, (cI .i64).enc now, (cE (eA .u8 16)).enc home] (encFo (followF l now home)) := by
  have hn := hl.n
  refine pure_intro (wd := 1) (Q := mkQ LM1) (by decide) tysOk (q_of LM1_ok) mixed Try.func10 rfl _ (by show 3 ≤ _; decide) _ ?_
  repeat' (first | (apply And.intro <;> intro hc <;> (first | exact Bool.noConfusion hc | (simp only [decide_eq_true_eq, decide_eq_false_iff_not, Bool.not_eq_true', Bool.not_eq_false', beq_iff_eq, beq_eq_false_iff_ne, bne_iff_ne, bne_eq_false_iff_eq, Bool.true_eq_false, Bool.false_eq_true, ne_eq, not_true_eq_false] at hc <;> first | exact absurd rfl hc | skip) | skip)) | (refine And.intro (by first | exact trivial | decide | omega | (dsimp only; omega) | exact fun _ _ => rfl | exact ⟨by assumption, by first | exact trivial | decide | omega | (dsimp only; omega)⟩) ?_) | (apply And.intro) | (intro s hs; (first | (have hs' : s = bvalid l := hs.trans (by show bvalid (toL eBd l.length (rowF eBd l)) = _; rw [toL_bd]) ) | (have hs' : s = vt now := hs)); clear hs; subst hs'))
  · show bdL (toL eBd l.length (rowF eBd l)); rw [toL_bd]; exact hl
  · have e : followF l now home = (ip0, 1) := by simp [followF, *]
    rw [e]
    refine Done.mk (leF_tup ?_)
    repeat' (first | exact trivial | exact rfl | exact leC_int rfl | exact leC_bool rfl | refine leE_all ?_ | exact leC_bool (by assumption) | apply And.intro)
  · have e : followF l now home = (ip0, 2) := by simp [followF, *]
    rw [e]
    refine Done.mk (leF_tup ?_)
    repeat' (first | exact trivial | exact rfl | exact leC_int rfl | exact leC_bool rfl | refine leE_all ?_ | exact leC_bool (by assumption) | apply And.intro)
  · have hv : bvalid l = true := by assumption
    have hvn : vt now = true := by assumption
    have hbv := bv_f hv
    refine loop_intro (mono_of LM1_ok) (fun i : {i : Nat // i ≤ l.length} => (⟨[(1, one (.int .i64 now)), (5, one (.ptr 0 0 0 false)), (6, one (.ptr 1 0 0 false)), (8, one (.mp 9)), (24, one (.sl false l.length eBd.sz (rowF eBd l))), (25, one (.int .i64 (l.length : Int))), (26, one (.int .i64 (i.1 : Int)))],
      [(0, some ⟨29, 1, 16, true, fun _ => (eA .u8 16).cell home⟩), (1, some ⟨29, 1, 16, true, fun _ _ => .top⟩), (9, some ⟨67, (keepB now (l.take i.1)).length, 32, false, rowF eBd (keepB now (l.take i.1))⟩)], 14⟩ : Hd)) (fun i => l.length - i.1) (fun _ => rfl) ?_ ⟨0, by omega⟩ [] ?_
    · rintro ⟨i, hi⟩
      dsimp only at hi ⊢
      repeat' (first | (apply And.intro <;> intro hc <;> (first | exact Bool.noConfusion hc | (simp only [decide_eq_true_eq, decide_eq_false_iff_not, Bool.not_eq_true', Bool.not_eq_false', beq_iff_eq, beq_eq_false_iff_ne, bne_iff_ne, bne_eq_false_iff_eq, Bool.true_eq_false, Bool.false_eq_true] at hc) | skip)) | (refine And.intro (by first | exact trivial | decide | omega | (dsimp only; omega) | exact fun _ _ => rfl) ?_) | (apply And.intro) | (intro s hs))
      · have hlt : i < l.length := by omega
        have htil : now < (l.getD i default).til := by assumption
        have e : keepB now (l.take (i + 1)) = keepB now (l.take i) ++ [l.getD i default] := by rw [cur_take hlt, if_pos htil]
        refine ⟨⟨i + 1, by omega⟩, [], by dsimp only; omega, rfl, ?_, ?_⟩
        · repeat' (first | exact trivial | exact rfl | exact leF_ptr rfl | exact leF_int rfl | exact leF_bool rfl | exact leF_cl (cl_slB _ _) | exact leF_cl (cl_slR _ _) | exact leF_cl (cl_ll _ _) | exact leF_c (leC_os rfl rfl) | refine leF_int ?_ | refine leF_bool ?_ | exact leN_varA (fun _ _ => (Elem.flat _ _ _).le) | exact leN_varA (fun _ _ => leC_top) | apply And.intro)
          all_goals first
            | exact leF_c (leC_mp rfl)
            | first | (dsimp only; rw [IntWalk.i64_in _ (by omega)]; omega) | (dsimp only; rw [IntWalk.i64_in _ (by omega)]; done) | (dsimp only; exact IntWalk.i64_in _ (by omega)) | exact IntWalk.i64_in _ (by omega) | (rw [IntWalk.i64_in _ (by omega)]; omega)
        · repeat' (first | exact trivial | exact rfl | exact leF_ptr rfl | exact leF_int rfl | exact leF_bool rfl | exact leF_cl (cl_slB _ _) | exact leF_cl (cl_slR _ _) | exact leF_cl (cl_ll _ _) | exact leF_c (leC_os rfl rfl) | refine leF_int ?_ | refine leF_bool ?_ | exact leN_varA (fun _ _ => (Elem.flat _ _ _).le) | exact leN_varA (fun _ _ => leC_top) | apply And.intro)
          change LeN _ _ _
          refine leN_put ?_ ?_ (fun k hk j hj => ?_) fun j hj => ?_
          · refine cur_none hbv hlt (allLt_at (n := 16) ?_)
            repeat' (first | exact trivial | exact rfl | apply And.intro)
          · dsimp only; rw [e]; simp
          · dsimp only
            rw [e]
            unfold rowF
            rw [List.getD_eq_getElem?_getD (l := keepB now (l.take i) ++ _), List.getElem?_append_left hk, ← List.getD_eq_getElem?_getD]
            exact (Elem.flat _ _ _).le
          · have e2 : rowF eBd (keepB now (l.take (i + 1))) (keepB now (l.take i)).length j = eBd.cell (l.getD i default) j := by
              rw [e]
              unfold rowF
              rw [List.getD_eq_getElem?_getD (l := keepB now (l.take i) ++ _), List.getElem?_append_right (Nat.le_refl _), Nat.sub_self]; rfl
            dsimp only
            rw [e2]
            clear e2
            revert j
            refine allLt_at (n := 32) ?_
            repeat' (first | exact trivial | exact leC_int rfl | apply And.intro)
      · have hlt : i < l.length := by omega
        have htil : ¬ now < (l.getD i default).til := by assumption
        have e : keepB now (l.take (i + 1)) = keepB now (l.take i) := by rw [cur_take hlt, if_neg htil, List.append_nil]
        refine ⟨⟨i + 1, by omega⟩, [], by dsimp only; omega, rfl, ?_, ?_⟩
        · repeat' (first | exact trivial | exact rfl | exact leF_ptr rfl | exact leF_int rfl | exact leF_bool rfl | exact leF_cl (cl_slB _ _) | exact leF_cl (cl_slR _ _) | exact leF_cl (cl_ll _ _) | exact leF_c (leC_os rfl rfl) | refine leF_int ?_ | refine leF_bool ?_ | exact leN_varA (fun _ _ => (Elem.flat _ _ _).le) | exact leN_varA (fun _ _ => leC_top) | apply And.intro)
          all_goals first
            | exact leF_c (leC_mp rfl)
            | first | (dsimp only; rw [IntWalk.i64_in _ (by omega)]; omega) | (dsimp only; rw [IntWalk.i64_in _ (by omega)]; done) | (dsimp only; exact IntWalk.i64_in _ (by omega)) | exact IntWalk.i64_in _ (by omega) | (rw [IntWalk.i64_in _ (by omega)]; omega)
        · repeat' (first | exact trivial | exact rfl | exact leF_ptr rfl | exact leF_int rfl | exact leF_bool rfl | exact leF_cl (cl_slB _ _) | exact leF_cl (cl_slR _ _) | exact leF_cl (cl_ll _ _) | exact leF_c (leC_os rfl rfl) | refine leF_int ?_ | refine leF_bool ?_ | exact leN_varA (fun _ _ => (Elem.flat _ _ _).le) | exact leN_varA (fun _ _ => leC_top) | apply And.intro)
          change LeN _ _ _
          dsimp only
          rw [e]
          exact leN_row rfl fun _ _ _ _ => (Elem.flat _ _ _).le
      · have hil : i = l.length := by omega
        have hM : keepB now (l.take i) = keepB now l := by rw [hil, List.take_length]
        generalize keepB now (l.take i) = M at hM ⊢
        refine loop_intro (mono_of LM1_ok) (fun s : Fo2 l now home => (⟨[(6, one (.ptr 1 0 0 false)), (8, one (.mp 9)), (11, one (.mp 15)), (12, one (.ptr 18 0 0 false))],
          [(1, some ⟨29, 1, 16, true, fun _ _ => .top⟩), (9, some ⟨67, M.length, 32, false, rowF eBd M⟩), (15, some ⟨66, s.V.length, 17, false, visF s.V⟩), (18, some ⟨29, 1, 16, true, fun _ => (eA .u8 16).cell s.a⟩)], 20⟩ : Hd)) (fun s => l.length - s.V.length) (fun _ => rfl) ?_ ⟨[], home, folI_0⟩ [] ?_
        · rintro ⟨V, a, hI⟩
          dsimp only at hI ⊢
          have hg : ∀ j, j < 16 → (eA .u8 16).cell a (0 + j) = .int .u8 (vget a j) := fun j hj => by rw [Nat.zero_add]; rfl
          have hvis := vis_in (V := V) hg
          have hrow := find_row (l := l) (now := now) hg hM
          repeat' (first | (apply And.intro <;> intro hc <;> (first | exact Bool.noConfusion hc | (simp only [decide_eq_true_eq, decide_eq_false_iff_not, Bool.not_eq_true', Bool.not_eq_false', beq_iff_eq, beq_eq_false_iff_ne, bne_iff_ne, bne_eq_false_iff_eq, Bool.true_eq_false, Bool.false_eq_true] at hc) | skip)) | (refine And.intro (by first | exact trivial | decide | omega | (dsimp only; omega) | exact fun _ _ => rfl) ?_) | (apply And.intro) | (intro s hs))
          · have hno : nxt l now a = none := by
              rcases hrow with ⟨_, h⟩ | ⟨h, _⟩
              · exact h
              · have hc1 : Nat.blt (findI (fun k => eqFrom (fun j => (eA .u8 16).cell a (0 + j)) (rowF eBd M k) 16 0) M.length 0) M.length = false := by assumption
                rw [blt_lt h] at hc1; cases hc1
            have e : followF l now home = (a, 0) := by
              unfold followF
              rw [if_pos hv, if_pos hvn, hI.stop hno]
            rw [e]
            refine Done.mk (leF_tup ?_)
            repeat' (first | exact trivial | exact rfl | exact leC_int rfl | exact leC_bool rfl | refine leE_all ?_ | exact leC_bool (by assumption) | apply And.intro)
          · have hc0 : (bif Nat.blt (findI (fun i => eqFrom (fun j => (eA .u8 16).cell a (0 + j)) (visF V i) 16 0) V.length 0) V.length then true else false) = false := by assumption
            have hc1 : Nat.blt (findI (fun k => eqFrom (fun j => (eA .u8 16).cell a (0 + j)) (rowF eBd M k) 16 0) M.length 0) M.length = true := by assumption
            have hlt : findI (fun k => eqFrom (fun j => (eA .u8 16).cell a (0 + j)) (rowF eBd M k) 16 0) M.length 0 < M.length := by
              rcases Nat.lt_or_ge (findI (fun k => eqFrom (fun j => (eA .u8 16).cell a (0 + j)) (rowF eBd M k) 16 0) M.length 0) M.length with h | h
              · exact h
              · rw [blt_noF h] at hc1; cases hc1
            have hp : nxt l now a = some (M.getD (findI (fun k => eqFrom (fun j => (eA .u8 16).cell a (0 + j)) (rowF eBd M k) 16 0) M.length 0) default).place := by
              rcases hrow with ⟨h, _⟩ | ⟨_, h⟩
              · omega
              · exact h
            have hna : a ∉ V := fun hm => by
              have h := hvis.2 hm
              rw [blt_lt h] at hc0; cases hc0
            obtain ⟨g1, g2⟩ := hI.go nxt_home hna hp
            refine ⟨⟨V ++ [a], _, g1⟩, [], by dsimp only; simp only [List.length_append, List.length_singleton]; omega, rfl, ?_, ?_⟩
            · repeat' (first | exact trivial | exact rfl | exact leF_ptr rfl | exact leF_int rfl | exact leF_bool rfl | exact leF_cl (cl_slB _ _) | exact leF_cl (cl_slR _ _) | exact leF_cl (cl_ll _ _) | exact leF_c (leC_os rfl rfl) | refine leF_int ?_ | refine leF_bool ?_ | exact leN_varA (fun _ _ => (Elem.flat _ _ _).le) | exact leN_varA (fun _ _ => leC_top) | apply And.intro)
              all_goals exact leF_c (leC_mp rfl)
            · repeat' (first | exact trivial | exact rfl | exact leF_ptr rfl | exact leF_int rfl | exact leF_bool rfl | exact leF_cl (cl_slB _ _) | exact leF_cl (cl_slR _ _) | exact leF_cl (cl_ll _ _) | exact leF_c (leC_os rfl rfl) | refine leF_int ?_ | refine leF_bool ?_ | exact leN_varA (fun _ _ => (Elem.flat _ _ _).le) | exact leN_varA (fun _ _ => leC_top) | apply And.intro)
              all_goals first
                | (change LeN _ _ _; exact leN_row rfl fun _ _ _ _ => (Elem.flat _ _ _).le)
                | (change LeN _ _ _; exact leN_vis hg hna)
                | (change LeN _ _ _
                   refine leN_varA fun j hj => ?_
                   show LeC _ (selC (Nat.blt _ _) (rowF eBd M _ (16 + (0 + j))) _) _
                   rw [blt_lt hlt, selC_true]
                   refine leC_eq (Elem.flat _ _ _).le ?_
                   rw [Nat.zero_add]
                   exact eBd_place_at _ _ hj)
                | trace_state
          · have hc0 : (bif Nat.blt (findI (fun i => eqFrom (fun j => (eA .u8 16).cell a (0 + j)) (visF V i) 16 0) V.length 0) V.length then true else false) = true := by assumption
            have hm : a ∈ V := by
              refine hvis.1 ?_
              rcases Nat.lt_or_ge (findI (fun i => eqFrom (fun j => (eA .u8 16).cell a (0 + j)) (visF V i) 16 0) V.length 0) V.length with h | h
              · exact h
              · rw [blt_noF h] at hc0; cases hc0
            have e : followF l now home = (ip0, 11) := by
              unfold followF
              rw [if_pos hv, if_pos hvn, hI.circle hm]
            rw [e]
            refine Done.mk (leF_tup ?_)
            repeat' (first | exact trivial | exact rfl | exact leC_int rfl | exact leC_bool rfl | refine leE_all ?_ | exact leC_bool (by assumption) | apply And.intro)
        · refine ⟨rfl, ?_, ?_⟩
          · repeat' (first | exact trivial | exact rfl | exact leF_ptr rfl | exact leF_int rfl | exact leF_bool rfl | exact leF_cl (cl_slB _ _) | exact leF_cl (cl_slR _ _) | exact leF_cl (cl_ll _ _) | exact leF_c (leC_os rfl rfl) | refine leF_int ?_ | refine leF_bool ?_ | exact leN_varA (fun _ _ => (Elem.flat _ _ _).le) | exact leN_varA (fun _ _ => leC_top) | apply And.intro)
            all_goals first
              | exact leF_c (leC_mp rfl)
              | trace_state
          · repeat' (first | exact trivial | exact rfl | exact leF_ptr rfl | exact leF_int rfl | exact leF_bool rfl | exact leF_cl (cl_slB _ _) | exact leF_cl (cl_slR _ _) | exact leF_cl (cl_ll _ _) | exact leF_c (leC_os rfl rfl) | refine leF_int ?_ | refine leF_bool ?_ | exact leN_varA (fun _ _ => (Elem.flat _ _ _).le) | exact leN_varA (fun _ _ => leC_top) | apply And.intro)
            all_goals first
              | (change LeN _ ⟨_, 0, _, _, _⟩ _; exact leN_row rfl fun i hi _ _ => absurd hi (Nat.not_lt_zero _))
              | (change LeN _ ⟨_, M.length, _, _, _⟩ _; exact leN_row rfl fun _ _ _ _ => (Elem.flat _ _ _).le)
              | (refine leN_row (t := 66) (n := 0) (sz := 17) rfl fun i hi _ _ => absurd hi (Nat.not_lt_zero _))
              | (refine leN_var ?_
                 repeat' (first | exact trivial | exact leC_int rfl | apply And.intro))
    · refine ⟨rfl, ?_, ?_⟩
      · repeat' (first | exact trivial | exact rfl | exact leF_ptr rfl | exact leF_int rfl | exact leF_bool rfl | exact leF_cl (cl_slB _ _) | exact leF_cl (cl_slR _ _) | exact leF_cl (cl_ll _ _) | exact leF_c (leC_os rfl rfl) | refine leF_int ?_ | refine leF_bool ?_ | exact leN_varA (fun _ _ => (Elem.flat _ _ _).le) | exact leN_varA (fun _ _ => leC_top) | apply And.intro)
        exact leF_c (leC_mp rfl)
      · repeat' (first | exact trivial | exact rfl | exact leF_ptr rfl | exact leF_int rfl | exact leF_bool rfl | exact leF_cl (cl_slB _ _) | exact leF_cl (cl_slR _ _) | exact leF_cl (cl_ll _ _) | exact leF_c (leC_os rfl rfl) | refine leF_int ?_ | refine leF_bool ?_ | exact leN_varA (fun _ _ => (Elem.flat _ _ _).le) | exact leN_varA (fun _ _ => leC_top) | apply And.intro)
        change LeN _ _ _
        exact leN_row rfl fun i hi _ _ => absurd hi (Nat.not_lt_zero _)
abbrev followE : Entry := pureE (AC.cons (cSl eBd eBd_sz) (AC.cons (cI .i64) (AC.cons (cE (eA .u8 16)) AC.nil))) (fun a => bdL a.1) (fun a => followF a.1 a.2.1 a.2.2.1) encFo
end Go.Proofs.Yteacebocjafinaa.AX
/- The reference of layer 36: Place, Follow (by AX2). -/
namespace Go.Proofs.Yteacebocjafinaa.AX
open Go.RowKit
set_option linter.unusedVariables false
set_option linter.unusedSimpArgs false
set_option maxHeartbeats 4000000 in
set_option maxRecDepth 20000 in
theorem rplace_ok (l : List Bd) (now : Int) (home : Fin 16 → Int) (hl : bdL l) : PureOk Try.prog 26 [(cSl eBd eBd_sz).enc l, (cI .i64).enc now, (cE (eA .u8 16)).enc home] (encPB (placeF l now home)) := by
  have hn := hl.n
  refine pure_intro (wd := 1) (Q := mkQ LN1) (by decide) tysOk (q_of LN1_ok) mixed Try.func26 rfl _ (by show 3 ≤ _; decide) _ ?_
  repeat' (first | (apply And.intro <;> intro hc <;> (first | exact Bool.noConfusion hc | (simp only [decide_eq_true_eq, decide_eq_false_iff_not, Bool.not_eq_true', Bool.not_eq_false', beq_iff_eq, beq_eq_false_iff_ne, bne_iff_ne, bne_eq_false_iff_eq, Bool.true_eq_false, Bool.false_eq_true, ne_eq, not_true_eq_false] at hc <;> first | exact absurd rfl hc | skip) | skip)) | (refine And.intro (by first | exact trivial | decide | omega | (dsimp only; omega) | exact fun _ _ => rfl | exact ⟨by assumption, by first | exact trivial | decide | omega | (dsimp only; omega)⟩) ?_) | (apply And.intro) | (intro s hs; (first | (have hs' : s = bvalid l := hs.trans (by show bvalid (toL eBd l.length (rowF eBd l)) = _; rw [toL_bd])) | (have hs' : s = vt now := hs)); clear hs; subst hs'))
  · show bdL (toL eBd l.length (rowF eBd l)); rw [toL_bd]; exact hl
  · have e : placeF l now home = (ip0, false) := by simp [placeF, *]
    rw [e]
    refine Done.mk (leF_tup ?_)
    repeat' (first | exact trivial | exact rfl | exact leC_int rfl | exact leC_bool rfl | refine leE_all ?_ | exact leC_bool (by assumption) | apply And.intro)
  · have e : placeF l now home = (ip0, false) := by simp [placeF, *]
    rw [e]
    refine Done.mk (leF_tup ?_)
    repeat' (first | exact trivial | exact rfl | exact leC_int rfl | exact leC_bool rfl | refine leE_all ?_ | exact leC_bool (by assumption) | apply And.intro)
  · have e : placeF l now home = findP now home l := by simp [placeF, *]
    rw [e]
    refine loop_intro (mono_of LN1_ok) (fun i : {i : Nat // i ≤ l.length ∧ findP now home l = findP now home (l.drop i)} => (⟨[(1, one (.int .i64 now)), (5, one (.ptr 0 0 0 false)), (6, one (.ptr 1 0 0 false)), (19, one (.sl false l.length eBd.sz (rowF eBd l))), (20, one (.int .i64 (l.length : Int))), (21, one (.int .i64 (i.1 : Int)))],
      [(0, some ⟨29, 1, 16, true, fun _ => (eA .u8 16).cell home⟩), (1, some ⟨29, 1, 16, true, fun _ _ => .top⟩)], 14⟩ : Hd)) (fun i => l.length - i.1) (fun _ => rfl) ?_ ⟨0, by omega, rfl⟩ [] ?_
    · rintro ⟨i, hi, hv⟩
      dsimp only at hi hv ⊢
      repeat' (first | (apply And.intro <;> intro hc <;> (first | exact Bool.noConfusion hc | (simp only [decide_eq_true_eq, decide_eq_false_iff_not, Bool.not_eq_true', Bool.not_eq_false', beq_iff_eq, beq_eq_false_iff_ne, bne_iff_ne, bne_eq_false_iff_eq, Bool.true_eq_false, Bool.false_eq_true] at hc) | skip)) | (refine And.intro (by first | exact trivial | decide | omega | (dsimp only; omega) | exact fun _ _ => rfl) ?_) | (apply And.intro) | (intro s hs))
      all_goals first
        | (have hlt : i < l.length := by omega
           have h1 : ipEq (l.getD i default).home home = true := by assumption
           have h2 : now < (l.getD i default).til := by assumption
           have e : findP now home l = ((l.getD i default).place, true) := by rw [hv, drop_at hlt, findP, if_pos ⟨h1, h2⟩]
           rw [e]
           refine Done.mk (leF_tup ?_)
           repeat' (first | exact trivial | exact rfl | exact leC_int rfl | exact leC_bool rfl | refine leE_all ?_ | exact leC_bool (by assumption) | apply And.intro))
        | (have hlt : i < l.length := by omega
           have h1 : ¬ (ipEq (l.getD i default).home home = true ∧ now < (l.getD i default).til) := by
             first
               | (have h1 : ipEq (l.getD i default).home home = false := by assumption
                  rw [h1]; simp)
               | (have h2 : ¬ now < (l.getD i default).til := by assumption
                  exact fun h => h2 h.2)
           refine ⟨⟨i + 1, by omega, ?_⟩, [], by dsimp only; omega, rfl, ?_, ?_⟩
           · rw [hv, drop_at hlt, findP, if_neg h1]
           · repeat' (first | exact trivial | exact rfl | exact leF_ptr rfl | exact leF_int rfl | exact leF_bool rfl | exact leF_cl (cl_slB _ _) | exact leF_cl (cl_slR _ _) | exact leF_cl (cl_ll _ _) | exact leF_c (leC_os rfl rfl) | refine leF_int ?_ | refine leF_bool ?_ | exact leN_varA (fun _ _ => (Elem.flat _ _ _).le) | exact leN_varA (fun _ _ => leC_top) | apply And.intro)
             first | (dsimp only; rw [IntWalk.i64_in _ (by omega)]; omega) | (dsimp only; rw [IntWalk.i64_in _ (by omega)]; done) | (dsimp only; exact IntWalk.i64_in _ (by omega)) | exact IntWalk.i64_in _ (by omega) | (rw [IntWalk.i64_in _ (by omega)]; omega)
           · repeat' (first | exact trivial | exact rfl | exact leF_ptr rfl | exact leF_int rfl | exact leF_bool rfl | exact leF_cl (cl_slB _ _) | exact leF_cl (cl_slR _ _) | exact leF_cl (cl_ll _ _) | exact leF_c (leC_os rfl rfl) | refine leF_int ?_ | refine leF_bool ?_ | exact leN_varA (fun _ _ => (Elem.flat _ _ _).le) | exact leN_varA (fun _ _ => leC_top) | apply And.intro))
        | (have hil : i = l.length := by omega
           have e : findP now home l = (ip0, false) := by rw [hv, hil, List.drop_length]; rfl
           rw [e]
           refine Done.mk (leF_tup ?_)
           repeat' (first | exact trivial | exact rfl | exact leC_int rfl | exact leC_bool rfl | refine leE_all ?_ | exact leC_bool (by assumption) | apply And.intro))
    · refine ⟨rfl, ?_, ?_⟩
      · repeat' (first | exact trivial | exact rfl | exact leF_ptr rfl | exact leF_int rfl | exact leF_bool rfl | exact leF_cl (cl_slB _ _) | exact leF_cl (cl_slR _ _) | exact leF_cl (cl_ll _ _) | exact leF_c (leC_os rfl rfl) | refine leF_int ?_ | refine leF_bool ?_ | exact leN_varA (fun _ _ => (Elem.flat _ _ _).le) | exact leN_varA (fun _ _ => leC_top) | apply And.intro)
      · repeat' (first | exact trivial | exact rfl | exact leF_ptr rfl | exact leF_int rfl | exact leF_bool rfl | exact leF_cl (cl_slB _ _) | exact leF_cl (cl_slR _ _) | exact leF_cl (cl_ll _ _) | exact leF_c (leC_os rfl rfl) | refine leF_int ?_ | refine leF_bool ?_ | exact leN_varA (fun _ _ => (Elem.flat _ _ _).le) | exact leN_varA (fun _ _ => leC_top) | apply And.intro)
abbrev placeE : Entry := pureE (AC.cons (cSl eBd eBd_sz) (AC.cons (cI .i64) (AC.cons (cE (eA .u8 16)) AC.nil))) (fun a => bdL a.1) (fun a => placeF a.1 a.2.1 a.2.2.1) encPB
def LFr : CsL := (26, some placeE) :: LN1
theorem LFr_ok : AllOk Try.prog LFr := ⟨pureE_ok ⟨_, Try.func26, rfl, by kernel_rfl⟩ fun a h => rplace_ok a.1 a.2.1 a.2.2.1 h, LN1_ok⟩
theorem pl_eq {l : List Bd} {now : Int} {a : Fin 16 → Int} (hv : bvalid l = true) (hn : vt now = true) : placeF (toL eBd l.length (rowF eBd l)) now ((eA .u8 16).rd fun q => (eA .u8 16).cell a (0 + q)) = findP now a l :=
  (place_congr (toL_bd l) (ip_rd (a := a) fun k hk => by show (eA .u8 16).cell a (0 + k) = _; rw [Nat.zero_add]; rfl)).trans (placeF_v hv hn)
structure RfS (l : List Bd) (now : Int) (home : Fin 16 → Int) where
  i : Nat
  a : Fin 16 → Int
  hi : i ≤ l.length + 1
  h : i ≤ l.length ∧ folN (nxt l now) l.length home = folN (nxt l now) (l.length - i) a ∨ i = l.length + 1 ∧ folN (nxt l now) l.length home = none
theorem rf_go {l : List Bd} {now : Int} {home a p : Fin 16 → Int} {i : Nat} (h : i ≤ l.length ∧ folN (nxt l now) l.length home = folN (nxt l now) (l.length - i) a ∨ i = l.length + 1 ∧ folN (nxt l now) l.length home = none) (hi : i ≤ l.length) (hp : findP now a l = (p, true)) :
    i + 1 ≤ l.length ∧ folN (nxt l now) l.length home = folN (nxt l now) (l.length - (i + 1)) p ∨ i + 1 = l.length + 1 ∧ folN (nxt l now) l.length home = none := by
  have h1 := nxt_some.2 hp
  rcases h with ⟨h2, h3⟩ | ⟨h2, _⟩
  · by_cases h4 : i = l.length
    · rw [h4, Nat.sub_self, folN_last h1] at h3
      exact .inr ⟨by omega, h3⟩
    · refine .inl ⟨by omega, h3.trans ?_⟩
      rw [show l.length - i = (l.length - (i + 1)) + 1 by omega]
      exact folN_step h1 _
  · omega
set_option maxHeartbeats 4000000 in
set_option maxRecDepth 20000 in
theorem rfollow_ok (l : List Bd) (now : Int) (home : Fin 16 → Int) (hl : bdL l) : PureOk Try.prog 27 [(cSl eBd eBd_sz).enc l, (cI .i64).enc now, (cE (eA .u8 16)).enc home] (encFo (followF l now home)) := by
  have hn := hl.n
  refine pure_intro (wd := 1) (Q := mkQ LFr) (by decide) tysOk (q_of LFr_ok) mixed Try.func27 rfl _ (by show 3 ≤ _; decide) _ ?_
  repeat' (first | (apply And.intro <;> intro hc <;> (first | exact Bool.noConfusion hc | (simp only [decide_eq_true_eq, decide_eq_false_iff_not, Bool.not_eq_true', Bool.not_eq_false', beq_iff_eq, beq_eq_false_iff_ne, bne_iff_ne, bne_eq_false_iff_eq, Bool.true_eq_false, Bool.false_eq_true, ne_eq, not_true_eq_false] at hc <;> first | exact absurd rfl hc | skip) | skip)) | (refine And.intro (by first | exact trivial | decide | omega | (dsimp only; omega) | exact fun _ _ => rfl | exact ⟨by assumption, by first | exact trivial | decide | omega | (dsimp only; omega)⟩) ?_) | (apply And.intro) | (intro s hs; (first | (have hs' : s = bvalid l := hs.trans (by show bvalid (toL eBd l.length (rowF eBd l)) = _; rw [toL_bd])) | (have hs' : s = vt now := hs)); clear hs; subst hs'))
  · show bdL (toL eBd l.length (rowF eBd l)); rw [toL_bd]; exact hl
  · have e : followF l now home = (ip0, 1) := by simp [followF, *]
    rw [e]
    refine Done.mk (leF_tup ?_)
    repeat' (first | exact trivial | exact rfl | exact leC_int rfl | exact leC_bool rfl | refine leE_all ?_ | exact leC_bool (by assumption) | apply And.intro)
  · have e : followF l now home = (ip0, 2) := by simp [followF, *]
    rw [e]
    refine Done.mk (leF_tup ?_)
    repeat' (first | exact trivial | exact rfl | exact leC_int rfl | exact leC_bool rfl | refine leE_all ?_ | exact leC_bool (by assumption) | apply And.intro)
  · have hv : bvalid l = true := by assumption
    have hvn : vt now = true := by assumption
    refine loop_intro (mono_of LFr_ok) (fun s : RfS l now home => (⟨[(0, one (.sl false l.length eBd.sz (rowF eBd l))), (1, one (.int .i64 now)), (6, one (.ptr 1 0 0 false)), (8, one (.ptr 10 0 0 false)), (9, one (.int .i64 (s.i : Int)))],
      [(1, some ⟨29, 1, 16, true, fun _ _ => .top⟩), (10, some ⟨29, 1, 16, true, fun _ => (eA .u8 16).cell s.a⟩)], 13⟩ : Hd)) (fun s => l.length + 1 - s.i) (fun _ => rfl) ?_ ⟨0, home, by omega, .inl ⟨by omega, rfl⟩⟩ [] ?_
    · rintro ⟨i, a, hi, hI⟩
      dsimp only at hi hI ⊢
      repeat' (first | (apply And.intro <;> intro hc <;> (first | exact Bool.noConfusion hc | (simp only [decide_eq_true_eq, decide_eq_false_iff_not, Bool.not_eq_true', Bool.not_eq_false', beq_iff_eq, beq_eq_false_iff_ne, bne_iff_ne, bne_eq_false_iff_eq, Bool.true_eq_false, Bool.false_eq_true, ne_eq, not_true_eq_false] at hc <;> first | exact absurd rfl hc | skip) | skip)) | (refine And.intro (by first | exact trivial | decide | omega | (dsimp only; omega) | exact fun _ _ => rfl | exact ⟨by assumption, by first | exact trivial | decide | omega | (dsimp only; omega)⟩) ?_) | (apply And.intro) | (intro s hs; (try (have hs' : s = findP now a l := hs.trans (pl_eq hv hvn); clear hs; subst hs'))))
      all_goals first
        | (show bdL (toL eBd l.length (rowF eBd l)); rw [toL_bd]; exact hl)
        | (have h2 : (findP now a l).2 = false := by assumption
           have e : followF l now home = (a, 0) := by
             unfold followF
             rw [if_pos hv, if_pos hvn]
             rcases hI with ⟨_, h3⟩ | ⟨h3, _⟩
             · rw [h3, folN_end (nxt_none.2 h2)]
             · omega
           rw [e]
           refine Done.mk (leF_tup ?_)
           repeat' (first | exact trivial | exact rfl | exact leC_int rfl | exact leC_bool rfl | refine leE_all ?_ | exact leC_bool (by assumption) | apply And.intro))
        | (have h2 : (findP now a l).2 = true := by assumption
           refine ⟨⟨i + 1, (findP now a l).1, by omega, rf_go hI (by omega) (Prod.ext rfl h2)⟩, [], by dsimp only; omega, rfl, ?_, ?_⟩
           · repeat' (first | exact trivial | exact rfl | exact leF_ptr rfl | exact leF_int rfl | exact leF_bool rfl | exact leF_cl (cl_slB _ _) | exact leF_cl (cl_slR _ _) | exact leF_cl (cl_ll _ _) | exact leF_c (leC_os rfl rfl) | refine leF_int ?_ | refine leF_bool ?_ | exact leN_varA (fun _ _ => (Elem.flat _ _ _).le) | exact leN_varA (fun _ _ => leC_top) | apply And.intro)
             first | (dsimp only; rw [IntWalk.i64_in _ (by omega)]; omega) | (dsimp only; rw [IntWalk.i64_in _ (by omega)]; done) | (dsimp only; exact IntWalk.i64_in _ (by omega)) | exact IntWalk.i64_in _ (by omega) | (rw [IntWalk.i64_in _ (by omega)]; omega)
           · repeat' (first | exact trivial | exact rfl | exact leF_ptr rfl | exact leF_int rfl | exact leF_bool rfl | exact leF_cl (cl_slB _ _) | exact leF_cl (cl_slR _ _) | exact leF_cl (cl_ll _ _) | exact leF_c (leC_os rfl rfl) | refine leF_int ?_ | refine leF_bool ?_ | exact leN_varA (fun _ _ => (Elem.flat _ _ _).le) | exact leN_varA (fun _ _ => leC_top) | apply And.intro)
             all_goals (refine leN_var ?_; repeat' (first | exact trivial | exact leC_int rfl | apply And.intro)))
        | (have e : followF l now home = (ip0, 11) := by
             unfold followF
             rw [if_pos hv, if_pos hvn]
             rcases hI with ⟨h3, _⟩ | ⟨_, h3⟩
             · omega
             · rw [h3]
           rw [e]
           refine Done.mk (leF_tup ?_)
           repeat' (first | exact trivial | exact rfl | exact leC_int rfl | exact leC_bool rfl | refine leE_all ?_ | exact leC_bool (by assumption) | apply And.intro))
        | trace_state
    · refine ⟨rfl, ?_, ?_⟩
      · repeat' (first | exact trivial | exact rfl | exact leF_ptr rfl | exact leF_int rfl | exact leF_bool rfl | exact leF_cl (cl_slB _ _) | exact leF_cl (cl_slR _ _) | exact leF_cl (cl_ll _ _) | exact leF_c (leC_os rfl rfl) | refine leF_int ?_ | refine leF_bool ?_ | exact leN_varA (fun _ _ => (Elem.flat _ _ _).le) | exact leN_varA (fun _ _ => leC_top) | apply And.intro)
      · repeat' (first | exact trivial | exact rfl | exact leF_ptr rfl | exact leF_int rfl | exact leF_bool rfl | exact leF_cl (cl_slB _ _) | exact leF_cl (cl_slR _ _) | exact leF_cl (cl_ll _ _) | exact leF_c (leC_os rfl rfl) | refine leF_int ?_ | refine leF_bool ?_ | exact leN_varA (fun _ _ => (Elem.flat _ _ _).le) | exact leN_varA (fun _ _ => leC_top) | apply And.intro)
        refine leN_var ?_
        repeat' (first | exact trivial | exact leC_int rfl | apply And.intro)
end Go.Proofs.Yteacebocjafinaa.AX
/- Layer 36: slices.Equal, Base, Time, Bindings, home, binds (by AX2). -/
namespace Go.Proofs.Yteacebocjafinaa.AX
open Go.RowKit
set_option linter.unusedVariables false
set_option linter.unusedSimpArgs false
theorem minT_vt {now life : Int} (h : vt now = true) (h1 : 0 ≤ life) (h2 : life ≤ 60) : vt (minT now life) = true := by
  unfold vt at h ⊢
  simp only [Bool.and_eq_true, decide_eq_true_eq] at h ⊢
  unfold minT
  split <;> omega
theorem bind_valid {l : List Bd} {now life : Int} {b : Bd} (h : (bindF l now b life).2 = 0) : bvalid (bindF l now b life).1 = true := by
  unfold bindF at h ⊢
  split at h
  · rename_i h1
    rw [if_pos h1]
    split at h
    · rename_i h2
      rw [if_pos h2]
      cases hb : bindL now { b with til := minT now life } false l with
      | none => rw [hb] at h; exact absurd h (by decide)
      | some out =>
        rw [hb] at h
        unfold bindE at h ⊢
        simp only at h ⊢
        split at h
        · rename_i h3
          rw [if_pos h3]
          have hv := h1.1
          unfold bvalid at hv ⊢
          simp only [Bool.and_eq_true, decide_eq_true_eq] at hv ⊢
          refine ⟨h3, bind_bv ?_ hv.2 rfl hb⟩
          unfold bdOk
          simp only [h1.2, h2.2.1, minT_vt h2.1 h2.2.2.1 h2.2.2.2]; rfl
        · exact absurd h (by decide)
    · exact absurd h (by decide)
  · exact absurd h (by decide)
theorem bind_bd {l : List Bd} {now life : Int} {b : Bd} (hl : bdL l) (h1 : byteOk b.home) (h2 : byteOk b.place) : bdL (bindF l now b life).1 ∧ (bindF l now b life).1.length ≤ 32 := by
  have nil : bdL ([] : List Bd) ∧ ([] : List Bd).length ≤ 32 := ⟨⟨fun b hb => (by cases hb), by simp⟩, by simp⟩
  unfold bindF
  split
  · split
    · cases hb : bindL now { b with til := minT now life } false l with
      | none => exact nil
      | some out =>
        unfold bindE
        simp only
        split
        · rename_i h3
          refine ⟨⟨fun x hx => ?_, by show out.length ≤ _; omega⟩, h3⟩
          rcases bind_mem hb x hx with h | h
          · subst h; exact ⟨h1, h2⟩
          · exact hl.b x h
        · exact nil
    · exact nil
  · exact nil
/-! ### slices.Equal -/
theorem bdC_eq {c d : Bd} (h : eqFrom (eBd.cell c) (eBd.cell d) 34 0 = true) : c = d := by
  rw [eqFrom_iff] at h
  simp only [Nat.zero_add] at h
  obtain ⟨a1, a2, a3, a4⟩ := c
  obtain ⟨b1, b2, b3, b4⟩ := d
  have e1 : a1 = b1 := by
    funext q
    have := h (0 + q.1) (by omega)
    rw [eBd_home_at _ _ q.2, eBd_home_at _ _ q.2] at this
    simp only [eqCell, beq_iff_eq] at this
    rw [vget_lt _ q.2, vget_lt _ q.2] at this
    exact this
  have e2 : a2 = b2 := by
    funext q
    have := h (16 + q.1) (by omega)
    rw [eBd_place_at _ _ q.2, eBd_place_at _ _ q.2] at this
    simp only [eqCell, beq_iff_eq] at this
    rw [vget_lt _ q.2, vget_lt _ q.2] at this
    exact this
  have e3 : a3 = b3 := by simpa [eqCell] using (show eqCell (.int .i64 a3) (.int .i64 b3) = true from h 32 (by omega))
  have e4 : a4 = b4 := by simpa [eqCell] using (show eqCell (.int .i64 a4) (.int .i64 b4) = true from h 33 (by omega))
  rw [e1, e2, e3, e4]
theorem bdC_refl (c : Bd) : eqFrom (eBd.cell c) (eBd.cell c) 34 0 = true := by
  rw [eqFrom_iff]
  intro i _
  show eqCell (eBdC c (0 + i)) (eBdC c (0 + i)) = true
  unfold eBdC
  cases Nat.blt (0 + i) 16 <;> cases Nat.blt (0 + i) 32 <;> cases Nat.beq (0 + i) 32 <;> simp [eqCell]
/-! ### the makers -/
theorem base_ok (n : Nat) (l : List Int) (q : Int) (ht : TapeOk n (rI l) q) :
    ∃ (r q' : Int), (0 ≤ r ∧ r ≤ 1099511627776) ∧ TapeOk n (rI l) q' ∧ MethOk Try.prog 7 [] (tapeN n (rI l) q) ((cI .i64).enc r) (tapeN n (rI l) q') := by
  refine tape_intro (wd := 1) (Q := mkQ LT1) (by decide) tysOk (q_of LT1_ok) mixed Try.func7 rfl _ (by show 0 + 1 ≤ _; decide) (fun _ => nff_int) ?_
  repeat' (first | (apply And.intro <;> intro hc <;> (first | exact Bool.noConfusion hc | (simp only [decide_eq_true_eq, decide_eq_false_iff_not, Bool.not_eq_true', Bool.not_eq_false', beq_iff_eq, beq_eq_false_iff_ne, bne_iff_ne, bne_eq_false_iff_eq, Bool.true_eq_false, Bool.false_eq_true] at hc) | skip)) | (refine And.intro (by first | exact trivial | decide | omega | (dsimp only; omega) | exact fun _ _ => rfl | exact ⟨by assumption, by first | exact trivial | decide | omega | (dsimp only; omega)⟩) ?_) | (apply And.intro) | (intro s hs))
  · rename_i r hr
    have hr' : 0 ≤ r ∧ r < 5 := hr
    exact ⟨(r, _), ⟨⟨by omega, by omega⟩, by assumption⟩, ⟨leF_int rfl, tapeN_le⟩⟩
  · rename_i r hr
    have hr' : 0 ≤ r ∧ r < 40 := hr
    exact ⟨(1099511627776 - r, _), ⟨⟨by omega, by omega⟩, by assumption⟩, ⟨leF_int (IntWalk.i64_in _ (by omega)), tapeN_le⟩⟩
  · rename_i r hr
    have hr' : 0 ≤ r ∧ r < 1000 := hr
    exact ⟨(r, _), ⟨⟨by omega, by omega⟩, by assumption⟩, ⟨leF_int rfl, tapeN_le⟩⟩
theorem time_ok (n : Nat) (l : List Int) (q b : Int) (ht : TapeOk n (rI l) q) (hb : 0 ≤ b ∧ b ≤ 1099511627776) :
    ∃ (r q' : Int), (0 ≤ r ∧ r ≤ 1099511627776) ∧ TapeOk n (rI l) q' ∧ MethOk Try.prog 16 [(cI .i64).enc b] (tapeN n (rI l) q) ((cI .i64).enc r) (tapeN n (rI l) q') := by
  refine tape_intro (wd := 1) (Q := mkQ LT1) (by decide) tysOk (q_of LT1_ok) mixed Try.func16 rfl _ (by show 1 + 1 ≤ _; decide) (fun _ => nff_int) ?_
  repeat' (first | (apply And.intro <;> intro hc <;> (first | exact Bool.noConfusion hc | (simp only [decide_eq_true_eq, decide_eq_false_iff_not, Bool.not_eq_true', Bool.not_eq_false', beq_iff_eq, beq_eq_false_iff_ne, bne_iff_ne, bne_eq_false_iff_eq, Bool.true_eq_false, Bool.false_eq_true] at hc) | skip)) | (refine And.intro (by first | exact trivial | decide | omega | (dsimp only; omega) | exact fun _ _ => rfl | exact ⟨by assumption, by first | exact trivial | decide | omega | (dsimp only; omega)⟩) ?_) | (apply And.intro) | (intro s hs))
  rename_i r hr
  have hr' : 0 ≤ r ∧ r < 60 := hr
  refine ⟨(max 0 (min 1099511627776 (b + r - 30)), _), ⟨⟨by omega, by omega⟩, by assumption⟩, ⟨leF_int ?_, tapeN_le⟩⟩
  rw [IntWalk.i64_in (b + r) (by omega), IntWalk.i64_in (b + r - 30) (by omega)]
  split <;> split <;> omega
abbrev baseE : Entry := tapeE AC.nil (fun _ => True) (fun a (r : Int) => 0 ≤ r ∧ r ≤ 1099511627776) (cI .i64).enc
abbrev timeE : Entry := tapeE (AC.cons (cI .i64) AC.nil) (fun a => 0 ≤ a.1 ∧ a.1 ≤ 1099511627776) (fun a (r : Int) => 0 ≤ r ∧ r ≤ 1099511627776) (cI .i64).enc
def LN2 : CsL := (7, some baseE) :: (16, some timeE) ::
  (19, some (pureE (AC.cons (cSl eBd eBd_sz) (AC.cons (cI .i64) (AC.cons (cE eBd) (AC.cons (cI .i64) AC.nil)))) (fun a => (bdL a.1 ∧ byteOk a.2.2.1.home) ∧ (-9223372036854775808 ≤ a.2.2.2.1 ∧ a.2.2.2.1 ≤ 9223372036854775807)) (fun a => bindF a.1 a.2.1 a.2.2.1 a.2.2.2.1) encBE)) :: (LN1 ++ LM3)
theorem LN2_ok : AllOk Try.prog LN2 := ⟨tapeE_ok ⟨_, Try.func7, rfl, by kernel_rfl⟩ fun n l q a ht hp => base_ok n l q ht, tapeE_ok ⟨_, Try.func16, rfl, by kernel_rfl⟩ fun n l q a ht hp => time_ok n l q a.1 ht hp, pureE_ok ⟨_, Try.func19, rfl, by kernel_rfl⟩ fun a h => rbind_ok a.1 a.2.1 a.2.2.1 a.2.2.2.1 h.1.1 h.1.2 h.2, append_ok LN1_ok LM3_ok⟩
theorem nff_bd {L : List Bd} : NFF (.e (.c (slR eBd L))) := nff_c (nf_sl fun i _ j _ => (eBd.flat _ _).nf)
structure mkB (L : List Bd) : Prop where
  d : bdL L
  v : bvalid L = true
structure BgS (n : Nat) (l : List Int) where
  k : Nat
  L : List Bd
  q : Int
  hk : k ≤ 7
  h : mkB L
  ht : TapeOk n (rI l) q
theorem bd_eq4 {g : Nat → CV} {a r : Fin 16 → Int} {s t : Int} (h1 : allLt 16 fun q => g (0 + q) = .int .u8 (vget a q)) (h2 : allLt 16 fun q => g (16 + q) = .int .u8 (vget r q)) (h3 : g 32 = .int .i64 s) (h4 : g 33 = .int .i64 t) : eBd.rd g = ⟨a, r, s, t⟩ := bd_rd (allLt_at h1) (allLt_at h2) h3 h4
theorem by_home {g : Nat → CV} {a : Fin 16 → Int} (h1 : allLt 16 fun q => g (0 + q) = .int .u8 (vget a q)) (hb : byteOk a) : byteOk (eBd.rd g).home := ⟨fun q => by
  show 0 ≤ valI (g (0 + q.1)) ∧ valI (g (0 + q.1)) < 256
  rw [allLt_at h1 q.1 q.2]
  show 0 ≤ vget a q.1 ∧ vget a q.1 < 256
  rw [vget_lt _ q.2]
  exact hb.q q⟩
set_option maxHeartbeats 4000000 in
set_option maxRecDepth 10000 in
theorem bindings_ok (n : Nat) (l : List Int) (q now : Int) (ht : TapeOk n (rI l) q) (hnow : 0 ≤ now ∧ now ≤ 1099511627776) :
    ∃ (r : List Bd) (q' : Int), mkB r ∧ TapeOk n (rI l) q' ∧ MethOk Try.prog 8 [(cI .i64).enc now] (tapeN n (rI l) q) (.e (.c (slR eBd r))) (tapeN n (rI l) q') := by
  refine tape_intro (enc := fun r => .e (.c (slR eBd r))) (wd := 1) (Q := mkQ LN2) (by decide) tysOk (q_of LN2_ok) mixed Try.func8 rfl _ (by show 1 + 1 ≤ _; decide) (fun _ => nff_bd) ?_
  repeat' (first | (apply And.intro <;> intro hc <;> (first | exact Bool.noConfusion hc | (simp only [decide_eq_true_eq, decide_eq_false_iff_not, Bool.not_eq_true', Bool.not_eq_false', beq_iff_eq, beq_eq_false_iff_ne, bne_iff_ne, bne_eq_false_iff_eq, Bool.true_eq_false, Bool.false_eq_true] at hc) | skip)) | (refine And.intro (by first | exact trivial | decide | omega | (dsimp only; omega) | exact fun _ _ => rfl | exact ⟨by assumption, by first | exact trivial | decide | omega | (dsimp only; omega)⟩) ?_) | (apply And.intro) | (intro s hs))
  rename_i k0 hk0
  have hk0' : 0 ≤ k0 ∧ k0 < 8 := hk0
  refine loop_intro (mono_of LN2_ok) (fun s : BgS n l => (⟨[(0, one (.ptr 0 0 0 false)), (1, one (.int .i64 now)), (5, one (slR eBd s.L)), (6, one (.int .i64 (s.k : Int)))],
    [(0, some (tapeN n (rI l) s.q))], 8⟩ : Hd)) (fun s => s.k) (fun _ => rfl) ?_ ⟨k0.toNat, [], _, by omega, ⟨⟨fun b hb => (by cases hb), by simp⟩, rfl⟩, hs⟩ [] ?_
  · rintro ⟨k, L, q1, hk, hL, ht1⟩
    dsimp only at hk ⊢
    repeat' (first | (apply And.intro <;> intro hc <;> (first | exact Bool.noConfusion hc | (simp only [decide_eq_true_eq, decide_eq_false_iff_not, Bool.not_eq_true', Bool.not_eq_false', beq_iff_eq, beq_eq_false_iff_ne, bne_iff_ne, bne_eq_false_iff_eq, Bool.true_eq_false, Bool.false_eq_true] at hc) | skip)) | (refine And.intro (by first | exact trivial | decide | omega | (dsimp only; omega) | exact fun _ _ => rfl | exact ⟨by assumption, by first | exact trivial | decide | omega | (dsimp only; omega)⟩) ?_) | (apply And.intro) | (intro s hs))
    · dsimp only; rw [toL_bd]; exact hL.d
    · rename_i tm htm q2 hq2 r1 hr1 q3 hq3 r2 hr2 q4 hq4 sq hsq q5 hq5 lf hlf
      refine by_home (a := r1) ?_ hr1.1
      repeat' (first | exact trivial | exact rfl | apply And.intro)
    · rename_i tm htm q2 hq2 r1 hr1 q3 hq3 r2 hr2 q4 hq4 sq hsq q5 hq5 lf hlf
      have hlf' : 0 ≤ lf ∧ lf < 61 := hlf
      first
        | (show (-9223372036854775808 : Int) ≤ lf; omega)
        | (show lf ≤ (9223372036854775807 : Int); omega)
    · rename_i tm htm q2 hq2 r1 hr1 q3 hq3 r2 hr2 q4 hq4 sq hsq q5 hq5 lf hlf q6 hq6
      have hs' : s = bindF L tm ⟨r1, r2, sq, 0⟩ lf := by
        rw [hs]; dsimp only; refine bind_congr (toL_bd _) (bd_eq4 ?_ ?_ rfl rfl) <;> (repeat' (first | exact trivial | exact rfl | apply And.intro))
      refine ⟨⟨k - 1, s.1, _, by omega, ⟨by rw [hs']; exact (bind_bd hL.d hr1.1 hr2.1).1, by rw [hs']; exact bind_valid (by rw [← hs']; exact hc)⟩, hq6⟩, [], by dsimp only; omega, rfl, ?_, ?_⟩
      · repeat' (first | exact trivial | exact rfl | exact leF_ptr rfl | exact leF_int rfl | exact leF_bool rfl | exact leF_cl (cl_slB _ _) | exact leF_cl (cl_slR _ _) | exact leF_cl (cl_ll _ _) | exact leF_c (leC_os rfl rfl) | refine leF_int ?_ | refine leF_bool ?_ | exact leN_varA (fun _ _ => (Elem.flat _ _ _).le) | exact leN_varA (fun _ _ => leC_top) | apply And.intro)
        (dsimp only; rw [IntWalk.i64_in _ (by omega)]; omega)
      · repeat' (first | exact trivial | exact rfl | exact leF_ptr rfl | exact leF_int rfl | exact leF_bool rfl | exact leF_cl (cl_slB _ _) | exact leF_cl (cl_slR _ _) | exact leF_cl (cl_ll _ _) | exact leF_c (leC_os rfl rfl) | refine leF_int ?_ | refine leF_bool ?_ | exact leN_varA (fun _ _ => (Elem.flat _ _ _).le) | exact leN_varA (fun _ _ => leC_top) | apply And.intro)
        exact tapeN_le
    · rename_i tm htm q2 hq2 r1 hr1 q3 hq3 r2 hr2 q4 hq4 sq hsq q5 hq5 lf hlf q6 hq6
      refine ⟨⟨k - 1, L, _, by omega, hL, hq6⟩, [], by dsimp only; omega, rfl, ?_, ?_⟩
      · repeat' (first | exact trivial | exact rfl | exact leF_ptr rfl | exact leF_int rfl | exact leF_bool rfl | exact leF_cl (cl_slB _ _) | exact leF_cl (cl_slR _ _) | exact leF_cl (cl_ll _ _) | exact leF_c (leC_os rfl rfl) | refine leF_int ?_ | refine leF_bool ?_ | exact leN_varA (fun _ _ => (Elem.flat _ _ _).le) | exact leN_varA (fun _ _ => leC_top) | apply And.intro)
        (dsimp only; rw [IntWalk.i64_in _ (by omega)]; omega)
      · repeat' (first | exact trivial | exact rfl | exact leF_ptr rfl | exact leF_int rfl | exact leF_bool rfl | exact leF_cl (cl_slB _ _) | exact leF_cl (cl_slR _ _) | exact leF_cl (cl_ll _ _) | exact leF_c (leC_os rfl rfl) | refine leF_int ?_ | refine leF_bool ?_ | exact leN_varA (fun _ _ => (Elem.flat _ _ _).le) | exact leN_varA (fun _ _ => leC_top) | apply And.intro)
        exact tapeN_le
    · exact ⟨(L, _), ⟨hL, ht1⟩, ⟨leF_c (leC_sl (fun _ => rfl) rfl rfl fun i _ j _ => (eBd.flat _ _).le), tapeN_le⟩⟩
  · refine ⟨rfl, ?_, ?_⟩
    · repeat' (first | exact trivial | exact rfl | exact leF_ptr rfl | exact leF_int rfl | exact leF_bool rfl | exact leF_cl (cl_slB _ _) | exact leF_cl (cl_slR _ _) | exact leF_cl (cl_ll _ _) | exact leF_c (leC_os rfl rfl) | refine leF_int ?_ | refine leF_bool ?_ | exact leN_varA (fun _ _ => (Elem.flat _ _ _).le) | exact leN_varA (fun _ _ => leC_top) | apply And.intro)
      all_goals first
        | exact leF_c (leC_nils_sl rfl)
        | (dsimp only; omega)
        | skip
    · repeat' (first | exact trivial | exact rfl | exact leF_ptr rfl | exact leF_int rfl | exact leF_bool rfl | exact leF_cl (cl_slB _ _) | exact leF_cl (cl_slR _ _) | exact leF_cl (cl_ll _ _) | exact leF_c (leC_os rfl rfl) | refine leF_int ?_ | refine leF_bool ?_ | exact leN_varA (fun _ _ => (Elem.flat _ _ _).le) | exact leN_varA (fun _ _ => leC_top) | apply And.intro)
      exact tapeN_le
/-! ### home, binds -/
set_option maxRecDepth 10000 in
theorem home_ok' (n : Nat) (l : List Int) (q : Int) (L : List Bd) (ht : TapeOk n (rI l) q) (hL : bdL L) :
    ∃ (r : Fin 16 → Int) (q' : Int), byteOk r ∧ TapeOk n (rI l) q' ∧ MethOk Try.prog 9 [(cSl eBd eBd_sz).enc L] (tapeN n (rI l) q) ((cE (eA .u8 16)).enc r) (tapeN n (rI l) q') := by
  have hn := hL.n
  refine tape_intro (wd := 1) (Q := mkQ LN2) (by decide) tysOk (q_of LN2_ok) mixed Try.func9 rfl _ (by show 1 + 1 ≤ _; decide) (nff_elem (eA .u8 16)) ?_
  repeat' (first | (apply And.intro <;> intro hc <;> (first | exact Bool.noConfusion hc | (simp only [decide_eq_true_eq, decide_eq_false_iff_not, Bool.not_eq_true', Bool.not_eq_false', beq_iff_eq, beq_eq_false_iff_ne, bne_iff_ne, bne_eq_false_iff_eq, Bool.true_eq_false, Bool.false_eq_true] at hc) | skip)) | (refine And.intro (by first | exact trivial | decide | omega | (dsimp only; omega) | exact fun _ _ => rfl | exact ⟨by assumption, by first | exact trivial | decide | omega | (dsimp only; omega)⟩) ?_) | (apply And.intro) | (intro s hs))
  · rename_i ix hix
    have hix' : 0 ≤ ix ∧ ix < (L.length : Int) := hix
    exact ⟨((L.getD ix.toNat default).home, _), ⟨(hL.b _ (memB (by omega))).1, by assumption⟩, ⟨leF_e (leE_all (by repeat' (first | exact trivial | exact rfl | exact leC_int rfl | exact leC_bool rfl | refine leE_all ?_ | exact leC_bool (by assumption) | apply And.intro))), tapeN_le⟩⟩
  · rename_i r hr
    exact ⟨(r, _), ⟨hr.1, by assumption⟩, ⟨leF_e (leE_all (by repeat' (first | exact trivial | exact rfl | exact leC_int rfl | exact leC_bool rfl | refine leE_all ?_ | exact leC_bool (by assumption) | apply And.intro))), tapeN_le⟩⟩
  · rename_i r hr
    exact ⟨(r, _), ⟨hr.1, by assumption⟩, ⟨leF_e (leE_all (by repeat' (first | exact trivial | exact rfl | exact leC_int rfl | exact leC_bool rfl | refine leE_all ?_ | exact leC_bool (by assumption) | apply And.intro))), tapeN_le⟩⟩
theorem same_bd {a b : List Bd} (h : a = b) : a = b := h
abbrev eqBE : Entry := pureE (AC.cons (cSl eBd eBd_sz) (AC.cons (cSl eBd eBd_sz) AC.nil)) (fun a => a.1 = a.2.1 ∧ a.1.length ≤ 2932031007317) (fun _ => true) cB.enc
def LN3 : CsL := LN2
theorem LN3_ok : AllOk Try.prog LN3 := LN2_ok
end Go.Proofs.Yteacebocjafinaa.AX

/- slices.Clone of bindings: a new block (by AX2, and by the kit's walk where the slice is empty). -/
namespace Go.Proofs.Yteacebocjafinaa.AX
open Go.RowKit
set_option linter.unusedVariables false
set_option linter.unusedSimpArgs false
theorem run_eqlNil {P : Program} {w : World} {t e : TypeId} (ht : P.underlying t = some (.slice e)) (a : Option Addr) (l c : Nat) : (binOp .eql t (.slice a l c) (.slice none 0 0)).run P w = .ok (.bool a.isNone) w := by
  simp [binOp, run_eqNil ht]
theorem clone_nil (a : Option Addr) (cap : Nat) (w : World) : Calls Try.prog 29 #[.slice a 0 cap] w fun e w' => ∃ a', e = .returned (.slice a' 0 0) ∧ Below w.heap.size w w' := by
  cases a with
  | none =>
    have hnil : ∀ W, (binOp .eql 26 (.slice none 0 cap) (.slice none 0 0)).run Try.prog W = .ok (.bool true) W := fun W => run_eqlNil Try.underlying26 none 0 cap
    go_enter Try.func29, Try.ntmps29
    go_wp2
    go_ret
    exact ⟨none, rfl, Below.refl _ _⟩
  | some ad =>
    have hnil : ∀ W, (binOp .eql 26 (.slice (some ad) 0 cap) (.slice none 0 0)).run Try.prog W = .ok (.bool false) W := fun W => run_eqlNil Try.underlying26 (some ad) 0 cap
    go_enter Try.func29, Try.ntmps29
    go_wp2_with fail
    go_ret
    exact ⟨some ⟨w.heap.size, 0, none⟩, rfl, (Below.refl _ _).alloc (Nat.le_refl _) _⟩
theorem clone_ok (l : List Bd) (hl : l.length ≤ 2932031007317) : NewOk Try.prog 29 [(cSl eBd eBd_sz).enc l] (some l.length) none (ents eBd 40 l) := by
  by_cases h0 : l.length = 0
  · have e0 : l = [] := List.length_eq_zero_iff.1 h0
    subst e0
    intro X w vals hrel hX
    obtain ⟨v0, rfl⟩ : ∃ v0, vals = #[v0] := by
      have h2 : vals.size = 1 := hrel.1
      match vals, h2 with
      | ⟨[a]⟩, _ => exact ⟨a, rfl⟩
    have h1 : (CV.sl false 0 34 (rowF eBd [])).rel (fun _ => none) X (fun _ => False) w v0 := hrel.2 0 _ v0 rfl rfl
    obtain ⟨a, cap, rfl, _, _⟩ := h1
    refine (clone_nil a cap w).mono fun e w' ⟨a', he, hb⟩ => ?_
    exact ⟨.slice a' 0 0, none, he, hb, (fun x h => by cases h), ⟨eBd_sz, (fun h => by cases h), .inl ⟨rfl, rfl⟩⟩, ⟨a', 0, rfl, Nat.le_refl _, fun h => absurd h (Nat.lt_irrefl _)⟩⟩
  · refine new_intro (wd := 1) (Q := mkQ LE0) (by decide) tysOk (q_of LE0_ok) mixed Try.func29 rfl _ (by show 1 ≤ _; decide) (fun i _ j _ => row_nf eBd l i j) ?_
    repeat' (first | (apply And.intro <;> intro hc <;> (first | exact Bool.noConfusion hc | (simp only [decide_eq_true_eq, decide_eq_false_iff_not, Bool.not_eq_true', Bool.not_eq_false', beq_iff_eq, beq_eq_false_iff_ne, bne_iff_ne, bne_eq_false_iff_eq, Bool.true_eq_false, Bool.false_eq_true] at hc) | skip)) | (refine And.intro (by first | exact trivial | decide | omega | (dsimp only; omega) | exact fun _ _ => rfl) ?_) | (apply And.intro) | (intro s hs))
    refine ⟨⟨some 5, leF_c (leC_os rfl (Nat.zero_add _)), ?_⟩⟩
    refine leN_row (Nat.zero_add _) fun i hi j hj => ?_
    refine selC_out (blt_zero _) ?_
    rw [Nat.sub_zero]
    exact (Elem.flat _ _ _).le
abbrev cloneE : Entry := newE (AC.cons (cSl eBd eBd_sz) AC.nil) (fun a => a.1.length ≤ 2932031007317) (fun a => a.1) (fun l => some l.length) (fun _ => none) (fun l => ents eBd 40 l)
theorem cloneE_ok : EntOk Try.prog 29 cloneE := newE_ok ⟨_, Try.func29, rfl, by kernel_rfl⟩ (fun s l h => by cases h) fun a h => clone_ok a.1 h
end Go.Proofs.Yteacebocjafinaa.AX

/- Layer 36: spoiled (by AX2). -/
namespace Go.Proofs.Yteacebocjafinaa.AX
open Go.RowKit
set_option linter.unusedVariables false
set_option linter.unusedSimpArgs false
def LN4 : CsL := (29, some cloneE) :: LT1
theorem LN4_ok : AllOk Try.prog LN4 := ⟨cloneE_ok, LT1_ok⟩
structure BdC (g : Nat → CV) : Prop where
  ok : eBd.ok g = true
  h : byteOk (eBd.rd g).home
  p : byteOk (eBd.rd g).place
theorem selBd {c : Bool} {x y : Nat → CV} (h1 : c = true → BdC x) (h2 : c = false → BdC y) : BdC (fun j => selC c (x j) (y j)) := by
  cases c with
  | true => simp only [selC_true]; exact h1 rfl
  | false => simp only [selC_false]; exact h2 rfl
theorem bdC_cell {b : Bd} (h : byteOk b.home ∧ byteOk b.place) : BdC (eBd.cell b) := ⟨eBd_ok b, by rw [eBd_rd]; exact h.1, by rw [eBd_rd]; exact h.2⟩
theorem bdC_const {g : Nat → CV} (h0 : eBd.ok g = true) (h1 : allLt 16 fun q => 0 ≤ valI (g (0 + q)) ∧ valI (g (0 + q)) < 256) (h2 : allLt 16 fun q => 0 ≤ valI (g (16 + q)) ∧ valI (g (16 + q)) < 256) : BdC g := ⟨h0, ⟨fun q => allLt_at h1 q.1 q.2⟩, ⟨fun q => allLt_at h2 q.1 q.2⟩⟩
theorem ok_bd {g : Nat → CV} (h1 : ∀ q, q < 16 → isK .u8 (g (0 + q)) = true) (h2 : ∀ q, q < 16 → isK .u8 (g (16 + q)) = true) (h3 : isK .i64 (g 32) = true) (h4 : isK .i64 (g 33) = true) : eBd.ok g = true := by
  show (okA .u8 g 0 16 && okA .u8 g 16 16 && isK .i64 (g 32) && isK .i64 (g 33)) = true
  have ok : ∀ {o : Nat} {n : Nat}, (∀ i, i < n → isK .u8 (g (o + i)) = true) → okA .u8 g o n = true := by
    intro o n
    induction n with
    | zero => intro _; rfl
    | succ n ih => intro h; simp only [okA, Bool.and_eq_true]; exact ⟨h n (by omega), ih fun i hi => h i (by omega)⟩
  rw [ok h1, ok h2, h3, h4]; rfl
theorem okA_k {g : Nat → CV} {o n : Nat} (h : okA .u8 g o n = true) {i : Nat} (hi : i < n) : isK .u8 (g (o + i)) = true := by
  rw [okA_at h i hi]; rfl
theorem ok_inv {g : Nat → CV} (h : eBd.ok g = true) : okA .u8 g 0 16 = true ∧ okA .u8 g 16 16 = true ∧ isK .i64 (g 32) = true ∧ isK .i64 (g 33) = true := by
  have h' : (okA .u8 g 0 16 && okA .u8 g 16 16 && isK .i64 (g 32) && isK .i64 (g 33)) = true := h
  simp only [Bool.and_eq_true] at h'
  exact ⟨h'.1.1.1, h'.1.1.2, h'.1.2, h'.2⟩
theorem bdC_place {g p : Nat → CV} (h : BdC g) (hp : ∀ q, q < 16 → p q = g (0 + 0 + q)) : BdC (ovr g 16 16 p) := by
  obtain ⟨o1, o2, o3, o4⟩ := ok_inv h.ok
  have e1 : ∀ q, q < 16 → ovr g 16 16 p (0 + q) = g (0 + q) := fun q hq => ovrO (by omega)
  have e2 : ∀ q, q < 16 → ovr g 16 16 p (16 + q) = g (0 + q) := fun q hq => by rw [ovrI (by omega), hp _ (by omega)]; congr 1; omega
  refine ⟨ok_bd (fun q hq => by rw [e1 q hq]; exact okA_k o1 hq) (fun q hq => by rw [e2 q hq]; exact okA_k o1 hq) (by rw [ovrO (by omega)]; exact o3) (by rw [ovrO (by omega)]; exact o4), ⟨fun q => ?_⟩, ⟨fun q => ?_⟩⟩
  · show 0 ≤ valI (ovr g 16 16 p (0 + q.1)) ∧ valI (ovr g 16 16 p (0 + q.1)) < 256
    rw [e1 q.1 q.2]; exact h.h.q q
  · show 0 ≤ valI (ovr g 16 16 p (16 + q.1)) ∧ valI (ovr g 16 16 p (16 + q.1)) < 256
    rw [e2 q.1 q.2]; exact h.h.q q
theorem bdC_placeW {g p : Nat → CV} {off n : Nat} (h : BdC g) (ho : off = 16) (hn : n = 16) (hp : ∀ q, q < 16 → p q = g (0 + 0 + q)) : BdC (ovw false 34 g off n p) := by
  subst ho hn
  exact bdC_place h hp
theorem bdC_seq {g : Nat → CV} {n : Int} (h : BdC g) : BdC (ovr g 32 1 fun _ => .int .i64 n) := by
  obtain ⟨o1, o2, o3, o4⟩ := ok_inv h.ok
  refine ⟨ok_bd (fun q hq => by rw [ovrO (by omega)]; exact okA_k o1 hq) (fun q hq => by rw [ovrO (by omega)]; exact okA_k o2 hq) (by rw [ovrI (by omega)]; rfl) (by rw [ovrO (by omega)]; exact o4), ⟨fun q => ?_⟩, ⟨fun q => ?_⟩⟩
  · show 0 ≤ valI (ovr g 32 1 _ (0 + q.1)) ∧ valI (ovr g 32 1 _ (0 + q.1)) < 256
    rw [ovrO (by omega)]; exact h.h.q q
  · show 0 ≤ valI (ovr g 32 1 _ (16 + q.1)) ∧ valI (ovr g 32 1 _ (16 + q.1)) < 256
    rw [ovrO (by omega)]; exact h.p.q q
theorem bdC_til {g : Nat → CV} {n : Int} (h : BdC g) : BdC (ovr g 33 1 fun _ => .int .i64 n) := by
  obtain ⟨o1, o2, o3, o4⟩ := ok_inv h.ok
  refine ⟨ok_bd (fun q hq => by rw [ovrO (by omega)]; exact okA_k o1 hq) (fun q hq => by rw [ovrO (by omega)]; exact okA_k o2 hq) (by rw [ovrO (by omega)]; exact o3) (by rw [ovrI (by omega)]; rfl), ⟨fun q => ?_⟩, ⟨fun q => ?_⟩⟩
  · show 0 ≤ valI (ovr g 33 1 _ (0 + q.1)) ∧ valI (ovr g 33 1 _ (0 + q.1)) < 256
    rw [ovrO (by omega)]; exact h.h.q q
  · show 0 ≤ valI (ovr g 33 1 _ (16 + q.1)) ∧ valI (ovr g 33 1 _ (16 + q.1)) < 256
    rw [ovrO (by omega)]; exact h.p.q q
theorem bdC_zero {g : Nat → CV} (h : BdC g) : BdC (fun q => g (0 + q)) := by simp only [Nat.zero_add]; exact h
theorem toL_mem {n : Nat} {g : Nat → Nat → CV} {x : Bd} (h : x ∈ toL eBd n g) : ∃ i, i < n ∧ x = eBd.rd (g i) := by
  simp only [toL, List.mem_map, List.mem_range] at h
  obtain ⟨i, hi, rfl⟩ := h
  exact ⟨i, hi, rfl⟩
/-- The end: an owned row is handed back as a list. -/
theorem fin_rows {H : Hp} {k n : Nat} {f : Nat → Nat → CV} {t : TypeId} {N : Nat} {l : List Int} {q' : Int} (hk : hget H k = some ⟨t, n, 34, false, f⟩) (hf : ∀ i, i < n → BdC (f i)) (hn : n ≤ 2932031007317) (ht : TapeOk N (rI l) q') (hH : hget H 0 = some (tapeN N (rI l) q')) (hk0 : Nat.beq k 0 = false) :
    ∃ r : List Bd × Int, (bdL r.1 ∧ TapeOk N (rI l) r.2) ∧ FinM (.e (.c (slR eBd r.1))) (tapeN N (rI l) r.2) (.e (.c (.os k 0 n))) H := by
  refine ⟨(toL eBd n f, q'), ⟨⟨fun x hx => ?_, by rw [toL_len]; exact hn⟩, ht⟩, ⟨leF_c ?_, ?_⟩⟩
  · obtain ⟨i, hi, rfl⟩ := toL_mem hx
    exact ⟨(hf i hi).h, (hf i hi).p⟩
  · refine leC_os_sl hk ?_ rfl (toL_len _ _ _).symm (by simp) fun q hq j hj => ?_
    · show (!([0].any (Nat.beq k))) = true
      simp only [List.any_cons, List.any_nil, Bool.or_false, hk0, Bool.not_false]
    · have e : rowF eBd (toL eBd n f) q j = f q j := by
        unfold rowF
        rw [toL_get hq]
        exact (eBd.ok_eq _ (hf q hq).ok j hj).symm
      rw [e, Nat.zero_add]
      show LeC _ (f q j) (f q j)
      rw [eBd.ok_eq _ (hf q hq).ok j hj]
      exact (eBd.flat _ _).le
  · unfold WkE
    simp only [hH]
    exact tapeN_le
set_option maxHeartbeats 4000000 in
set_option maxRecDepth 10000 in
theorem spoiled_ok (n : Nat) (l : List Int) (q : Int) (L : List Bd) (ht : TapeOk n (rI l) q) (hL : bdL L) (h32 : L.length ≤ 32) :
    ∃ (r : List Bd) (q' : Int), bdL r ∧ TapeOk n (rI l) q' ∧ MethOk Try.prog 17 [(cSl eBd eBd_sz).enc L] (tapeN n (rI l) q) (.e (.c (slR eBd r))) (tapeN n (rI l) q') := by
  refine tape_intro (enc := fun r => .e (.c (slR eBd r))) (wd := 1) (Q := mkQ LN4) (by decide) tysOk (q_of LN4_ok) mixed Try.func17 rfl _ (by show 1 + 1 ≤ _; decide) (fun _ => nff_bd) ?_
  repeat' (first | (apply And.intro <;> intro hc <;> (first | exact Bool.noConfusion hc | (simp only [decide_eq_true_eq, decide_eq_false_iff_not, Bool.not_eq_true', Bool.not_eq_false', beq_iff_eq, beq_eq_false_iff_ne, bne_iff_ne, bne_eq_false_iff_eq, Bool.true_eq_false, Bool.false_eq_true, ne_eq, not_true_eq_false] at hc <;> first | exact absurd rfl hc | skip) | skip)) | (refine And.intro (by first | exact trivial | decide | omega | (dsimp only; omega) | exact fun _ _ => rfl | exact ⟨by assumption, by first | exact trivial | decide | omega | (dsimp only; omega)⟩) ?_) | (apply And.intro) | (intro s hs; (first | (have hs' : s = L := hs.trans (toL_bd L); clear hs; cases hs') | skip)))
  · dsimp only; rw [toL_bd]; omega
  · rename_i ix hix q1 hq1 c4 hc4
    have hix' : 0 ≤ ix ∧ ix < ((L.length + 1 : Nat) : Int) := hix
    refine fin_rows rfl (fun i hi => ?_) (by omega) (by assumption) rfl rfl
    have hi' : i < L.length + 1 := hi
    refine selBd (fun h0 => ?_) (fun h0 => ?_)
    · refine bdC_placeW ?_ rfl rfl (fun q hq => ?_)
      rotate_left
      · first
          | exact rfl
          | (congr 1; omega)
      refine selBd (fun h => ?_) (fun h => ?_)
      · exact bdC_cell (hL.b _ (memB (Nat.le_of_ble_eq_true h)))
      · have h2 := blt_ge h
        refine selBd (fun h' => ?_) (fun h' => ?_)
        · refine bdC_const rfl ?_ ?_
          · repeat' (first | exact trivial | exact (show 0 ≤ (0 : Int) ∧ (0 : Int) < 256 by decide) | exact (show 0 ≤ (1 : Int) ∧ (1 : Int) < 256 by decide) | exact (show 0 ≤ (255 : Int) ∧ (255 : Int) < 256 by decide) | apply And.intro)
          · repeat' (first | exact trivial | exact (show 0 ≤ (0 : Int) ∧ (0 : Int) < 256 by decide) | exact (show 0 ≤ (1 : Int) ∧ (1 : Int) < 256 by decide) | exact (show 0 ≤ (255 : Int) ∧ (255 : Int) < 256 by decide) | apply And.intro)
        · exfalso
          rw [beq_of (by omega)] at h'; cases h'
    · skip
      refine selBd (fun h => ?_) (fun h => ?_)
      · exact bdC_cell (hL.b _ (memB (Nat.le_of_ble_eq_true h)))
      · have h2 := blt_ge h
        refine selBd (fun h' => ?_) (fun h' => ?_)
        · refine bdC_const rfl ?_ ?_
          · repeat' (first | exact trivial | exact (show 0 ≤ (0 : Int) ∧ (0 : Int) < 256 by decide) | exact (show 0 ≤ (1 : Int) ∧ (1 : Int) < 256 by decide) | exact (show 0 ≤ (255 : Int) ∧ (255 : Int) < 256 by decide) | apply And.intro)
          · repeat' (first | exact trivial | exact (show 0 ≤ (0 : Int) ∧ (0 : Int) < 256 by decide) | exact (show 0 ≤ (1 : Int) ∧ (1 : Int) < 256 by decide) | exact (show 0 ≤ (255 : Int) ∧ (255 : Int) < 256 by decide) | apply And.intro)
        · exfalso
          rw [beq_of (by omega)] at h'; cases h'
  · rename_i ix hix q1 hq1 c4 hc4 x1
    have hix' : 0 ≤ ix ∧ ix < ((L.length + 1 : Nat) : Int) := hix
    refine fin_rows rfl (fun i hi => ?_) (by omega) (by assumption) rfl rfl
    have hi' : i < L.length + 1 := hi
    refine selBd (fun h0 => ?_) (fun h0 => ?_)
    · refine bdC_seq ?_
      refine selBd (fun h => ?_) (fun h => ?_)
      · exact bdC_cell (hL.b _ (memB (Nat.le_of_ble_eq_true h)))
      · have h2 := blt_ge h
        refine selBd (fun h' => ?_) (fun h' => ?_)
        · refine bdC_const rfl ?_ ?_
          · repeat' (first | exact trivial | exact (show 0 ≤ (0 : Int) ∧ (0 : Int) < 256 by decide) | exact (show 0 ≤ (1 : Int) ∧ (1 : Int) < 256 by decide) | exact (show 0 ≤ (255 : Int) ∧ (255 : Int) < 256 by decide) | apply And.intro)
          · repeat' (first | exact trivial | exact (show 0 ≤ (0 : Int) ∧ (0 : Int) < 256 by decide) | exact (show 0 ≤ (1 : Int) ∧ (1 : Int) < 256 by decide) | exact (show 0 ≤ (255 : Int) ∧ (255 : Int) < 256 by decide) | apply And.intro)
        · exfalso
          rw [beq_of (by omega)] at h'; cases h'
    · skip
      refine selBd (fun h => ?_) (fun h => ?_)
      · exact bdC_cell (hL.b _ (memB (Nat.le_of_ble_eq_true h)))
      · have h2 := blt_ge h
        refine selBd (fun h' => ?_) (fun h' => ?_)
        · refine bdC_const rfl ?_ ?_
          · repeat' (first | exact trivial | exact (show 0 ≤ (0 : Int) ∧ (0 : Int) < 256 by decide) | exact (show 0 ≤ (1 : Int) ∧ (1 : Int) < 256 by decide) | exact (show 0 ≤ (255 : Int) ∧ (255 : Int) < 256 by decide) | apply And.intro)
          · repeat' (first | exact trivial | exact (show 0 ≤ (0 : Int) ∧ (0 : Int) < 256 by decide) | exact (show 0 ≤ (1 : Int) ∧ (1 : Int) < 256 by decide) | exact (show 0 ≤ (255 : Int) ∧ (255 : Int) < 256 by decide) | apply And.intro)
        · exfalso
          rw [beq_of (by omega)] at h'; cases h'
  · rename_i ix hix q1 hq1 c4 hc4 x1 x2
    have hix' : 0 ≤ ix ∧ ix < ((L.length + 1 : Nat) : Int) := hix
    refine fin_rows rfl (fun i hi => ?_) (by omega) (by assumption) rfl rfl
    have hi' : i < L.length + 1 := hi
    refine selBd (fun h0 => ?_) (fun h0 => ?_)
    · refine bdC_til ?_
      refine selBd (fun h => ?_) (fun h => ?_)
      · exact bdC_cell (hL.b _ (memB (Nat.le_of_ble_eq_true h)))
      · have h2 := blt_ge h
        refine selBd (fun h' => ?_) (fun h' => ?_)
        · refine bdC_const rfl ?_ ?_
          · repeat' (first | exact trivial | exact (show 0 ≤ (0 : Int) ∧ (0 : Int) < 256 by decide) | exact (show 0 ≤ (1 : Int) ∧ (1 : Int) < 256 by decide) | exact (show 0 ≤ (255 : Int) ∧ (255 : Int) < 256 by decide) | apply And.intro)
          · repeat' (first | exact trivial | exact (show 0 ≤ (0 : Int) ∧ (0 : Int) < 256 by decide) | exact (show 0 ≤ (1 : Int) ∧ (1 : Int) < 256 by decide) | exact (show 0 ≤ (255 : Int) ∧ (255 : Int) < 256 by decide) | apply And.intro)
        · exfalso
          rw [beq_of (by omega)] at h'; cases h'
    · skip
      refine selBd (fun h => ?_) (fun h => ?_)
      · exact bdC_cell (hL.b _ (memB (Nat.le_of_ble_eq_true h)))
      · have h2 := blt_ge h
        refine selBd (fun h' => ?_) (fun h' => ?_)
        · refine bdC_const rfl ?_ ?_
          · repeat' (first | exact trivial | exact (show 0 ≤ (0 : Int) ∧ (0 : Int) < 256 by decide) | exact (show 0 ≤ (1 : Int) ∧ (1 : Int) < 256 by decide) | exact (show 0 ≤ (255 : Int) ∧ (255 : Int) < 256 by decide) | apply And.intro)
          · repeat' (first | exact trivial | exact (show 0 ≤ (0 : Int) ∧ (0 : Int) < 256 by decide) | exact (show 0 ≤ (1 : Int) ∧ (1 : Int) < 256 by decide) | exact (show 0 ≤ (255 : Int) ∧ (255 : Int) < 256 by decide) | apply And.intro)
        · exfalso
          rw [beq_of (by omega)] at h'; cases h'
  · rename_i ix hix q1 hq1 c4 hc4 x1 x2
    refine fin_rows rfl (fun i hi => ?_) (by omega) (by assumption) rfl rfl
    have hi' : i < L.length + 1 + 1 := hi
    refine selBd (fun h0 => ?_) (fun h0 => ?_)
    · have hi2 := Nat.le_of_ble_eq_true h0
      refine selBd (fun h => ?_) (fun h => ?_)
      · exact bdC_cell (hL.b _ (memB (Nat.le_of_ble_eq_true h)))
      · have h2 := blt_ge h
        refine selBd (fun h' => ?_) (fun h' => ?_)
        · refine bdC_const rfl ?_ ?_
          · repeat' (first | exact trivial | exact (show 0 ≤ (0 : Int) ∧ (0 : Int) < 256 by decide) | exact (show 0 ≤ (1 : Int) ∧ (1 : Int) < 256 by decide) | exact (show 0 ≤ (255 : Int) ∧ (255 : Int) < 256 by decide) | apply And.intro)
          · repeat' (first | exact trivial | exact (show 0 ≤ (0 : Int) ∧ (0 : Int) < 256 by decide) | exact (show 0 ≤ (1 : Int) ∧ (1 : Int) < 256 by decide) | exact (show 0 ≤ (255 : Int) ∧ (255 : Int) < 256 by decide) | apply And.intro)
        · exfalso
          rw [beq_of (by omega)] at h'; cases h'
    · have hi2 := blt_ge h0
      refine selBd (fun h1 => ?_) (fun h1 => ?_)
      · simp only [Nat.zero_add]
        refine selBd (fun h => ?_) (fun h => ?_)
        · exact bdC_cell (hL.b _ (memB (Nat.le_of_ble_eq_true h)))
        · have h2 := blt_ge h
          refine selBd (fun h' => ?_) (fun h' => ?_)
          · refine bdC_const rfl ?_ ?_
            · repeat' (first | exact trivial | exact (show 0 ≤ (0 : Int) ∧ (0 : Int) < 256 by decide) | exact (show 0 ≤ (1 : Int) ∧ (1 : Int) < 256 by decide) | exact (show 0 ≤ (255 : Int) ∧ (255 : Int) < 256 by decide) | apply And.intro)
            · repeat' (first | exact trivial | exact (show 0 ≤ (0 : Int) ∧ (0 : Int) < 256 by decide) | exact (show 0 ≤ (1 : Int) ∧ (1 : Int) < 256 by decide) | exact (show 0 ≤ (255 : Int) ∧ (255 : Int) < 256 by decide) | apply And.intro)
          · exfalso
            rw [beq_of (by omega)] at h'; cases h'
      · exfalso
        rw [beq_of (by omega)] at h1; cases h1
end Go.Proofs.Yteacebocjafinaa.AX

/- MobilityReads, by AX2: the law returns true. -/
namespace Go.Proofs.Yteacebocjafinaa.AX
open Go.RowKit
set_option linter.unusedVariables false
set_option linter.unusedSimpArgs false
def LRs : CsL := (10, some followE) :: (27, some followE) :: (26, some placeE) :: LN2
theorem LRs_ok : AllOk Try.prog LRs := ⟨pureE_ok ⟨_, Try.func10, rfl, by kernel_rfl⟩ fun a h => follow_ok a.1 a.2.1 a.2.2.1 h, pureE_ok ⟨_, Try.func27, rfl, by kernel_rfl⟩ fun a h => rfollow_ok a.1 a.2.1 a.2.2.1 h, pureE_ok ⟨_, Try.func26, rfl, by kernel_rfl⟩ fun a h => rplace_ok a.1 a.2.1 a.2.2.1 h, LN2_ok⟩
theorem pl2_eq {L : List Bd} {now : Int} {a : Fin 16 → Int} {P : (Fin 16 → Int) × Bool} (h : placeF L now a = P) : placeF (toL eBd L.length (rowF eBd L)) now ((eA .u8 16).rd fun q => (eA .u8 16).cell a (0 + q)) = P :=
  (place_congr (toL_bd L) (ip_rd (a := a) fun k hk => by show (eA .u8 16).cell a (0 + k) = _; rw [Nat.zero_add]; rfl)).trans h
theorem fl2_eq {L : List Bd} {now : Int} {a : Fin 16 → Int} {P : (Fin 16 → Int) × Int} (h : followF L now a = P) : followF (toL eBd L.length (rowF eBd L)) now ((eA .u8 16).rd fun q => (eA .u8 16).cell a (0 + q)) = P := by
  rw [toL_bd, ip_rd (a := a) fun k hk => by show (eA .u8 16).cell a (0 + k) = _; rw [Nat.zero_add]; rfl]
  exact h
theorem eq_no {g h : Nat → CV} {a : Fin 16 → Int} (e : eqFrom g h 16 0 = false) (hg : allLt 16 fun q => g q = .int .u8 (vget a q)) (hh : allLt 16 fun q => h q = .int .u8 (vget a q)) : False := by
  rw [(eqFrom16 (allLt_at hg) (allLt_at hh)).2 rfl] at e
  cases e
set_option maxHeartbeats 4000000 in
set_option maxRecDepth 20000 in
theorem reads_ok (l : List Bd) (now : Int) (a : Fin 16 → Int) (hl : bdL l) : PureOk Try.prog 15 [(cSl eBd eBd_sz).enc l, (cI .i64).enc now, (cE (eA .u8 16)).enc a] (cB.enc true) := by
  obtain ⟨P, eP⟩ : ∃ P, placeF l now a = P := ⟨_, rfl⟩
  obtain ⟨F, eF⟩ : ∃ P, followF l now a = P := ⟨_, rfl⟩
  obtain ⟨V, eV⟩ : ∃ P, bvalid l = P := ⟨_, rfl⟩
  have eV' : bvalid (toL eBd l.length (rowF eBd l)) = V := (congrArg bvalid (toL_bd l)).trans eV
  refine pure_intro (wd := 1) (Q := mkQ LRs) (by decide) tysOk (q_of LRs_ok) mixed Try.func15 rfl _ (by show 3 ≤ _; decide) _ ?_
  repeat' (first | (apply And.intro <;> intro hc <;> (first | exact Bool.noConfusion hc | (simp only [decide_eq_true_eq, decide_eq_false_iff_not, Bool.not_eq_true', Bool.not_eq_false', beq_iff_eq, beq_eq_false_iff_ne, bne_iff_ne, bne_eq_false_iff_eq, Bool.true_eq_false, Bool.false_eq_true, ne_eq, not_true_eq_false] at hc <;> first | exact absurd rfl hc | skip) | skip)) | (refine And.intro (by first | exact trivial | decide | omega | (dsimp only; omega) | exact fun _ _ => rfl | exact ⟨by assumption, by first | exact trivial | decide | omega | (dsimp only; omega)⟩) ?_) | (apply And.intro) | (intro s hs; (try dsimp only at hs); (first | (have q : P = s := (hs.trans (pl2_eq eP)).symm; clear hs; subst q) | (have q : F = s := (hs.trans (fl2_eq eF)).symm; clear hs; subst q) | (have q : V = s := (hs.trans eV').symm; clear hs; subst q) | skip)))
  all_goals first
    | (show bdL _; dsimp only; rw [toL_bd]; exact hl)
    | exact Done.mk (leF_bool rfl)
    | exact Done.mk (leF_bool (beq_self_eq_true _))
    | exact Done.mk (leF_bool (decide_eq_true rfl))
    | (exfalso; refine eq_no (a := P.1) (by assumption) ?_ ?_ <;> (repeat' (first | exact trivial | exact rfl | apply And.intro)); done)
    | (exfalso; refine eq_no (a := F.1) (by assumption) ?_ ?_ <;> (repeat' (first | exact trivial | exact rfl | apply And.intro)); done)
    | (exfalso; exact absurd rfl (by assumption))
    | trace_state
abbrev bgsE : Entry := tapeE (AC.cons (cI .i64) AC.nil) (fun a => 0 ≤ a.1 ∧ a.1 ≤ 1099511627776) (fun a (r : List Bd) => mkB r) (fun r => .e (.c (slR eBd r)))
abbrev homeE : Entry := tapeE (AC.cons (cSl eBd eBd_sz) AC.nil) (fun a => bdL a.1) (fun a (r : Fin 16 → Int) => byteOk r) (cE (eA .u8 16)).enc
abbrev spoilE : Entry := tapeE (AC.cons (cSl eBd eBd_sz) AC.nil) (fun a => bdL a.1 ∧ a.1.length ≤ 32) (fun a (r : List Bd) => bdL r) (fun r => .e (.c (slR eBd r)))
def LRr : CsL := (8, some bgsE) :: (9, some homeE) :: (17, some spoilE) ::
  (15, some (pureE (AC.cons (cSl eBd eBd_sz) (AC.cons (cI .i64) (AC.cons (cE (eA .u8 16)) AC.nil))) (fun a => bdL a.1) (fun _ => true) cB.enc)) ::
  (12, some (pureE AC.nil (fun _ => True) (fun _ => true) cB.enc)) :: LN2
theorem LRr_ok : AllOk Try.prog LRr := ⟨tapeE_ok ⟨_, Try.func8, rfl, by kernel_rfl⟩ fun n l q a ht hp => bindings_ok n l q a.1 ht hp, tapeE_ok ⟨_, Try.func9, rfl, by kernel_rfl⟩ fun n l q a ht hp => home_ok' n l q a.1 ht hp, tapeE_ok ⟨_, Try.func17, rfl, by kernel_rfl⟩ fun n l q a ht hp => spoiled_ok n l q a.1 ht hp.1 hp.2,
  pureE_ok ⟨_, Try.func15, rfl, by kernel_rfl⟩ fun a h => reads_ok a.1 a.2.1 a.2.2.1 h, pureE_ok ⟨_, Try.func12, rfl, by kernel_rfl⟩ fun a _ => known36_ok, LN2_ok⟩
structure LrS (m : Nat) (l : List Int) where
  i : Nat
  q : Int
  hi : i ≤ 4
  ht : TapeOk m (rI l) q
set_option maxHeartbeats 4000000 in
set_option maxRecDepth 20000 in
theorem mreads_ok (raw : List Bd) (n : Nat) (l : List Int) (now : Int) (ip : Fin 16 → Int) (hl : rngL l) (hr : bdL raw) :
    PureOk Try.prog 5 [.e (.c (slR eBd raw)), .e (.c (.sl true n 1 (rI l))), (cI .i64).enc now, (cE (eA .u8 16)).enc ip] (.e (.c (.bool true))) := by
  refine pure_intro (wd := 1) (Q := mkQ LRr) (by decide) tysOk (q_of LRr_ok) mixed Try.func5 rfl _ (by show 4 ≤ _; decide) _ ?_
  repeat' (first | (apply And.intro <;> intro hc <;> (first | exact Bool.noConfusion hc | (simp only [decide_eq_true_eq, decide_eq_false_iff_not, Bool.not_eq_true', Bool.not_eq_false', beq_iff_eq, beq_eq_false_iff_ne, bne_iff_ne, bne_eq_false_iff_eq, Bool.true_eq_false, Bool.false_eq_true] at hc) | skip)) | (refine And.intro (by first | exact trivial | decide | omega | (dsimp only; omega) | exact fun _ _ => rfl | exact ⟨by assumption, by first | exact trivial | decide | omega | (dsimp only; omega)⟩) ?_) | (apply And.intro) | (intro s hs))
  · exact Done.mk (leF_bool hs)
  · exact ⟨l, rfl, hl⟩
  intro ht0
  obtain ⟨m, em⟩ : ∃ m, m = s := ⟨s, rfl⟩
  obtain ⟨q0, eq0⟩ : ∃ q0, q0 = hs := ⟨hs, rfl⟩
  subst em eq0
  repeat' (first | (apply And.intro <;> intro hc <;> (first | exact Bool.noConfusion hc | (simp only [decide_eq_true_eq, decide_eq_false_iff_not, Bool.not_eq_true', Bool.not_eq_false', beq_iff_eq, beq_eq_false_iff_ne, bne_iff_ne, bne_eq_false_iff_eq, Bool.true_eq_false, Bool.false_eq_true] at hc) | skip)) | (refine And.intro (by first | exact trivial | decide | omega | (dsimp only; omega) | exact fun _ _ => rfl | exact ⟨by assumption, by first | exact trivial | decide | omega | (dsimp only; omega)⟩) ?_) | (apply And.intro) | (intro s hs))
  rename_i base hbase q1 hq1 L hL
  have hbase' : 0 ≤ base ∧ base ≤ 1099511627776 := hbase
  refine loop_intro (mono_of LRr_ok) (fun s : LrS m l => (⟨[(0, one (slR eBd raw)), (2, one (.int .i64 now)), (7, one (.ptr 0 0 0 false)), (9, one (.ptr 6 0 0 false)), (10, one (.int .i64 base)), (11, one (slR eBd L)), (12, one (.int .i64 (s.i : Int)))],
    [(0, some ⟨29, 1, 16, true, fun _ => (eA .u8 16).cell ip⟩), (6, some (tapeN m (rI l) s.q))], 16⟩ : Hd)) (fun s => 4 - s.i) (fun _ => rfl) ?_ ⟨0, s, by omega, hs⟩ [] ?_
  · rintro ⟨i, q, hi, ht⟩
    dsimp only at hi ⊢
    repeat' (first | (apply And.intro <;> intro hc <;> (first | exact Bool.noConfusion hc | (simp only [decide_eq_true_eq, decide_eq_false_iff_not, Bool.not_eq_true', Bool.not_eq_false', beq_iff_eq, beq_eq_false_iff_ne, bne_iff_ne, bne_eq_false_iff_eq, Bool.true_eq_false, Bool.false_eq_true, ne_eq, not_true_eq_false] at hc <;> first | exact absurd rfl hc | skip) | skip)) | (refine And.intro (by first | exact trivial | decide | omega | (dsimp only; omega) | exact fun _ _ => rfl | exact ⟨by assumption, by first | exact trivial | decide | omega | (dsimp only; omega)⟩) ?_) | (apply And.intro) | (intro s hs; (first | (have hs' : s = true := hs; clear hs; subst hs') | skip)))
    all_goals first
      | assumption
      | (show bdL _; dsimp only; rw [toL_bd]; first | exact hL.d | exact hr | assumption)
      | (show List.length _ ≤ 32; dsimp only; rw [toL_bd]; exact bv_len hL.v)
      | exact Done.mk (leF_bool rfl)
      | (refine ⟨⟨i + 1, _, by omega, by assumption⟩, [], by dsimp only; omega, rfl, ?_, ?_⟩
         · repeat' (first | exact trivial | exact rfl | exact leF_ptr rfl | exact leF_int rfl | exact leF_bool rfl | exact leF_cl (cl_slB _ _) | exact leF_cl (cl_slR _ _) | exact leF_cl (cl_ll _ _) | exact leF_c (leC_os rfl rfl) | refine leF_int ?_ | refine leF_bool ?_ | exact leN_varA (fun _ _ => (Elem.flat _ _ _).le) | exact leN_varA (fun _ _ => leC_top) | apply And.intro)
           first | (dsimp only; rw [IntWalk.i64_in _ (by omega)]; omega) | (dsimp only; rw [IntWalk.i64_in _ (by omega)]; done) | (dsimp only; exact IntWalk.i64_in _ (by omega)) | exact IntWalk.i64_in _ (by omega) | (rw [IntWalk.i64_in _ (by omega)]; omega)
         · repeat' (first | exact trivial | exact rfl | exact leF_ptr rfl | exact leF_int rfl | exact leF_bool rfl | exact leF_cl (cl_slB _ _) | exact leF_cl (cl_slR _ _) | exact leF_cl (cl_ll _ _) | exact leF_c (leC_os rfl rfl) | refine leF_int ?_ | refine leF_bool ?_ | exact leN_varA (fun _ _ => (Elem.flat _ _ _).le) | exact leN_varA (fun _ _ => leC_top) | apply And.intro)
           exact tapeN_le)
      | trace_state
  · refine ⟨rfl, ?_, ?_⟩
    · repeat' (first | exact trivial | exact rfl | exact leF_ptr rfl | exact leF_int rfl | exact leF_bool rfl | exact leF_cl (cl_slB _ _) | exact leF_cl (cl_slR _ _) | exact leF_cl (cl_ll _ _) | exact leF_c (leC_os rfl rfl) | refine leF_int ?_ | refine leF_bool ?_ | exact leN_varA (fun _ _ => (Elem.flat _ _ _).le) | exact leN_varA (fun _ _ => leC_top) | apply And.intro)
    · repeat' (first | exact trivial | exact rfl | exact leF_ptr rfl | exact leF_int rfl | exact leF_bool rfl | exact leF_cl (cl_slB _ _) | exact leF_cl (cl_slR _ _) | exact leF_cl (cl_ll _ _) | exact leF_c (leC_os rfl rfl) | refine leF_int ?_ | refine leF_bool ?_ | exact leN_varA (fun _ _ => (Elem.flat _ _ _).le) | exact leN_varA (fun _ _ => leC_top) | apply And.intro)
      all_goals exact tapeN_le
end Go.Proofs.Yteacebocjafinaa.AX
/- MobilityReads: the walk. -/
namespace Go.Proofs.Yteacebocjafinaa
open Go.RowKit AX
set_option linter.unusedVariables false
abbrev ksBd : List (Option IntKind) := [some .u8, some .u8, some .u8, some .u8, some .u8, some .u8, some .u8, some .u8, some .u8, some .u8, some .u8, some .u8, some .u8, some .u8, some .u8, some .u8, some .u8, some .u8, some .u8, some .u8, some .u8, some .u8, some .u8, some .u8, some .u8, some .u8, some .u8, some .u8, some .u8, some .u8, some .u8, some .u8, some .i64, some .i64]
theorem wf_u8 {n : Int} (h : (Lit.int .u8 n).wf = true) : 0 ≤ n ∧ n < 256 := by
  simp [Lit.wf, IntKind.min, IntKind.max, IntKind.bits, IntKind.signed] at h
  omega
theorem bd_at0 : ∀ i, i < 16 → ksBd[0 + i]? = some (some .u8) := by decide
theorem bd_at1 : ∀ i, i < 16 → ksBd[16 + i]? = some (some .u8) := by decide
theorem ok_bdk (g : Nat → CV) (h : MtC ksBd g) : eBd.ok g = true := by
  show (okA .u8 g 0 16 && okA .u8 g 16 16 && isK .i64 (g 32) && isK .i64 (g 33)) = true
  rw [okA_of fun i hi => h.k (bd_at0 i hi), okA_of fun i hi => h.k (bd_at1 i hi), h.k (j := 32) rfl, h.k (j := 33) rfl]; rfl
theorem by_bdk {c : Bd} (h : ∃ g, MtC ksBd g ∧ c = eBd.rd g) : byteOk c.home ∧ byteOk c.place := by
  obtain ⟨g, hg, rfl⟩ := h
  exact ⟨⟨fun q => wf_u8 (hg.wf (bd_at0 q.1 q.2))⟩, ⟨fun q => wf_u8 (hg.wf (bd_at1 q.1 q.2))⟩⟩
abbrev ks16 : List (Option IntKind) := [some .u8, some .u8, some .u8, some .u8, some .u8, some .u8, some .u8, some .u8, some .u8, some .u8, some .u8, some .u8, some .u8, some .u8, some .u8, some .u8]
theorem ip_at0 : ∀ i, i < 16 → ks16[0 + i]? = some (some .u8) := by decide
theorem ok_ip16 (g : Nat → CV) (h : MtC ks16 g) : (eA .u8 16).ok g = true := by
  show okA .u8 g 0 16 = true
  exact okA_of fun i hi => h.k (ip_at0 i hi)
theorem walkMobilityReads (a0 : Option Addr) (len0 cap0 : Nat) (a1 : Option Addr) (len1 cap1 : Nat) (z1 : List Int) (a2 : Int) (x3 : Array Value) (w : World) (w0 : IsRows w ksBd a0 len0 cap0) (rr0 : len0 * 48 ≤ 140737488351232) (w1 : IsRow .i64 w a1 len1 cap1 z1) (rr1 : cap1 * 8 ≤ 140737488351232) (w2 : (Lit.int .i64 a2).wf = true) (w3 : Mt ks16 x3.toList) :
    Calls Try.prog 5 #[.slice a0 len0 cap0, .slice a1 len1 cap1, .int .i64 a2, .agg x3] w fun e w' => e = .returned (.bool true) ∧ Below w.heap.size w w' := by
  obtain ⟨raw, hn, hraw, h0⟩ := rows_rel w0 (E := eBd) (by decide) rfl ok_bdk
  obtain ⟨c, hc, h3⟩ := flat_rel w3 (E := eA .u8 16) (w := w) rfl ok_ip16
  exact walk_of (mreads_ok raw len1 z1 a2 c (rng_of w1) ⟨fun d hd => by_bdk (hraw d hd), by omega⟩) (relL_cons h0 (relL_cons (row_rel w1) (relL_cons rfl (relL1 h3))))
end Go.Proofs.Yteacebocjafinaa

