/- The tape of the makers, by AX2: contracts with a set of outcomes. -/
import Derived.Test.YtjknkfjhcapocaaGe
namespace Go.Proofs.Ytjknkfjhcapocaa.AX
open Go.RowKit
set_option linter.unusedVariables false
set_option linter.unusedSimpArgs false
def tapeN (n : Nat) (f : Nat → Nat → CV) (q : Int) : Ent := ⟨106, 1, 2, true, fun _ j => bif Nat.beq j 0 then .sl true n 1 f else .int .i64 q⟩
abbrev rI (l : List Int) : Nat → Nat → CV := rowF (eI .i64) l
def rngL (l : List Int) : Prop := ∀ i, -9223372036854775808 ≤ l.getD i default ∧ l.getD i default ≤ 9223372036854775807
structure TapeOk (n : Nat) (f : Nat → Nat → CV) (q : Int) : Prop where
  len : n ≤ 400
  lo : 0 ≤ q
  hi : q ≤ n
  row : ∃ l : List Int, f = rI l ∧ rngL l
theorem TapeOk.at {n : Nat} {f : Nat → Nat → CV} {q q' : Int} (h : TapeOk n f q) (h1 : 0 ≤ q') (h2 : q' ≤ n) : TapeOk n f q' := ⟨h.len, h1, h2, h.row⟩
theorem tapeN_le {c : Wc} {n : Nat} {l : List Int} {q : Int} : LeN c (tapeN n (rI l) q) (tapeN n (rI l) q) :=
  leN_var ⟨⟨trivial, leC_sl (fun _ => rfl) rfl rfl fun i _ j _ => leC_int rfl⟩, leC_int rfl⟩
theorem TapeOk.le {c : Wc} {n : Nat} {f : Nat → Nat → CV} {q : Int} (h : TapeOk n f q) : LeN c (tapeN n f q) (tapeN n f q) := by
  obtain ⟨_, _, _, l, rfl, _⟩ := h
  exact tapeN_le
theorem tapeN_nf {n : Nat} {l : List Int} {q : Int} : ∀ i, i < (tapeN n (rI l) q).n → ∀ j, j < (tapeN n (rI l) q).sz → NF ((tapeN n (rI l) q).f i j) := by
  intro i _ j _
  show NF (bif Nat.beq j 0 then _ else _)
  cases Nat.beq j 0 with
  | true => exact nf_sl fun i _ j _ => nf_int
  | false => exact nf_int

theorem tape_congr {P : Program} {fid : FuncId} {rest : List FV} {n : Nat} {f : Nat → Nat → CV} {q : Int} {g : Nat → Nat → CV} {val : FV} {e' : Ent} (h0 : g 0 0 = .sl true n 1 f) (h1 : g 0 1 = .int .i64 q) (h : MethOk P fid rest (tapeN n f q) val e') : MethOk P fid rest ⟨106, 1, 2, true, g⟩ val e' := by
  intro X w x vals a1 a2 a3 hent hrel
  refine h X w x vals a1 a2 a3 ?_ hrel
  obtain ⟨b1, b2, b3⟩ := hent
  refine ⟨b1, b2, b3.imp id ?_⟩
  rintro ⟨y, cs, d1, d2, d3, d4, d5, d6⟩
  refine ⟨y, cs, d1, d2, d3, d4, d5, fun i hi j hj u hu => ?_⟩
  have hi' : i < 1 := hi
  have hj' : j < 2 := hj
  have e0 : i = 0 := by omega
  subst e0
  have := d6 0 hi j hj u hu
  rcases (show j = 0 ∨ j = 1 by omega) with rfl | rfl
  · have t : (CV.sl true n 1 f).rel (fun _ => none) X (fun b => b = x.b) w u := by rw [← h0]; exact this
    exact t
  · have t : (CV.int .i64 q).rel (fun _ => none) X (fun b => b = x.b) w u := by rw [← h1]; exact this
    exact t

/-- The entry of a function that draws from a tape: its outcome is any r with S a r. -/
def tapeE {α R : Type} (A : AC α) (p : α → Prop) (S : α → R → Prop) (enc : R → FV) : Entry := fun args H _ _ =>
  match args with
  | .e (.c (.ptr k 0 0 _)) :: rest =>
    match hget H k with
    | some ⟨t, en, es, v, g⟩ =>
      match g 0 0, g 0 1 with
      | .sl true n s f, .int .i64 q =>
        match A.dec H rest with
        | some (a, pq, rd) => bif Nat.beq t 106 && Nat.beq en 1 && Nat.beq es 2 && v && Nat.beq s 1 && !(rd.any (Nat.beq k)) then
            some fun K => pAnd pq ((TapeOk n f q ∧ p a) ∧ ∀ r, S a r → ∀ q', TapeOk n f q' → K (enc r) [(k, some (tapeN n f q'))] (k :: rd)) else none
        | none => none
      | _, _ => none
    | none => none
  | _ => none
theorem tapeE_ok {α R : Type} {A : AC α} {p : α → Prop} {S : α → R → Prop} {enc : R → FV} {P : Program} {f : FuncId} (hb : hasBody P f)
    (h : ∀ n l q a, TapeOk n (rI l) q → p a → ∃ r q', S a r ∧ TapeOk n (rI l) q' ∧ MethOk P f (A.enc a) (tapeN n (rI l) q) (enc r) (tapeN n (rI l) q')) : EntOk P f (tapeE A p S enc) := by
  refine ⟨fun args H nm wd q _ hq K hK => ?_, fun args H nm wd q hq K K' hKK hK => ?_⟩
  · unfold tapeE at hq
    split at hq
    · rename_i k s rest
      split at hq
      · rename_i t en es v g he
        split at hq
        · rename_i n s f q0 hg0 hg1
          split at hq
          · rename_i a pr rd hd
            obtain ⟨hc, hq⟩ := cond_some hq
            subst hq
            simp only [Bool.and_eq_true, Bool.not_eq_true'] at hc
            obtain ⟨⟨⟨⟨⟨c1, c2⟩, c3⟩, c4⟩, c5⟩, c6⟩ := hc
            have c1 := Nat.eq_of_beq_eq_true c1
            have c2 := Nat.eq_of_beq_eq_true c2
            have c3 := Nat.eq_of_beq_eq_true c3
            have c5 := Nat.eq_of_beq_eq_true c5
            subst c1 c2 c3 c4 c5
            have hkr : k ∉ rd := fun hm => by
              have : rd.any (Nat.beq k) = true := List.any_eq_true.2 ⟨k, hm, by simp⟩
              rw [c6] at this; cases this
            obtain ⟨h1, ⟨h2, h2'⟩, h3⟩ := pAnd_iff.1 hK
            obtain ⟨l, rfl, hl⟩ := h2.row
            obtain ⟨r, q', g1, g2, g3⟩ := h n l q0 a h2 h2'
            refine ⟨_, _, _, callR_meth hb he rfl hkr ?_ (fun H' hh => A.sound H H' rest a pr rd hd h1 hh) (tape_congr hg0 hg1 g3) rfl, h3 _ g1 _ g2⟩
            intro i hi j hj
            have hi' : i < 1 := hi
            have hj' : j < 2 := hj
            have e0 : i = 0 := by omega
            subst e0
            rcases (show j = 0 ∨ j = 1 by omega) with rfl | rfl
            · show NF (g 0 0); rw [hg0]; exact nf_sl fun i _ j _ => nf_int
            · show NF (g 0 1); rw [hg1]; exact nf_int
          · cases hq
        · cases hq
      · cases hq
    · cases hq
  · unfold tapeE at hq
    split at hq
    · split at hq
      · split at hq
        · split at hq
          · obtain ⟨hc, hq⟩ := cond_some hq
            subst hq
            obtain ⟨h1, h2, h3⟩ := pAnd_iff.1 hK
            exact pAnd_iff.2 ⟨h1, h2, fun r hr q' hq' => hKK _ _ _ (h3 r hr q' hq')⟩
          · cases hq
        · cases hq
      · cases hq
    · cases hq
section
variable {P : Program} {T : Tys} {Q : Qs} {wd : Nat}
theorem tape_intro (hwd : 0 < wd) (hT : TysOk P T) (hQ : QsOk P Q) (hm : P.follows .mixedOrders = true) {f : FuncId} {fn : Func} {c : Code} (hf : P.funcs[f]? = some fn) (hb : fn.body = some c) (rest : List FV) (hn : rest.length + 1 ≤ fn.ntmps) {n : Nat} {l : List Int} {q : Int} {R : Type} {S : R → Prop} {enc : R → FV} (hnf : ∀ r, NFF (enc r))
    (h : exec T Q wd fn.ntmps 1 c (argFr (.e (.c (.ptr 0 0 0 false)) :: rest) 0) [(0, some (tapeN n (rI l) q))] 1 (endH T fn.results.toList fun x H _ => ∃ r : R × Int, (S r.1 ∧ TapeOk n (rI l) r.2) ∧ FinM (enc r.1) (tapeN n (rI l) r.2) x H)) :
    ∃ r q', S r ∧ TapeOk n (rI l) q' ∧ MethOk P f rest (tapeN n (rI l) q) (enc r) (tapeN n (rI l) q') := by
  obtain ⟨⟨r, q'⟩, h1, h2⟩ := exec_some (α := R × Int) (post := fun a x H _ => FinM (enc a.1) (tapeN n (rI l) a.2) x H) (S := fun a => S a.1 ∧ TapeOk n (rI l) a.2) hwd hQ h
  exact ⟨r, q', h1.1, h1.2, meth_intro hwd hT (QR_ok P) hm hf hb rest hn (hnf r) tapeN_nf h2⟩
end
theorem nff_int {k : IntKind} {a : Int} : NFF (.e (.c (.int k a))) := fun _ _ _ _ _ _ h => h
theorem nff_bool {a : Bool} : NFF (.e (.c (.bool a))) := fun _ _ _ _ _ _ h => h
theorem nff_c {x : CV} (h : NF x) : NFF (.e (.c x)) := h
theorem nff_elem {α : Type} (E : Elem α) (a : α) : NFF (.e (.agg E.sz (E.cell a))) := by
  rintro r r' X W w v ⟨cs, rfl, h1, h2⟩
  exact ⟨cs, rfl, h1, fun i u hu => (E.flat _ _).nf _ _ _ _ _ _ (h2 i u hu)⟩

/-! ### Next, Bool, Mod -/
theorem tmod_facts (x m : Int) (h : 1 ≤ m) : -m < x.tmod m ∧ x.tmod m < m := by
  have h1 := Int.tmod_lt_of_pos x (show 0 < m by omega)
  have h2 := Int.tmod_lt_of_pos (-x) (show 0 < m by omega)
  rw [Int.neg_tmod] at h2
  omega
theorem next_ok (n : Nat) (l : List Int) (q m : Int) (ht : TapeOk n (rI l) q) (h1 : 1 ≤ m) (h2 : m ≤ 4611686018427387904) :
    ∃ r q', (0 ≤ r ∧ r < m) ∧ TapeOk n (rI l) q' ∧ MethOk Try.prog 37 [(cI .i64).enc m] (tapeN n (rI l) q) ((cI .i64).enc r) (tapeN n (rI l) q') := by
  refine tape_intro (wd := 1) (Q := mkQ LE0) (by decide) tysOk (q_of LE0_ok) mixed Try.func37 rfl _ (by show 1 + 1 ≤ _; decide) (fun _ => nff_int) ?_
  have a1 := ht.len
  have a2 := ht.lo
  have a3 := ht.hi
  have a5 := tmod_facts (l.getD q.toNat default) m h1
  repeat' (first | (apply And.intro <;> intro hc <;> (first | exact Bool.noConfusion hc | (simp only [decide_eq_true_eq, decide_eq_false_iff_not, Bool.not_eq_true', Bool.not_eq_false', beq_iff_eq, beq_eq_false_iff_ne, bne_iff_ne, bne_eq_false_iff_eq, Bool.true_eq_false, Bool.false_eq_true] at hc) | skip)) | (refine And.intro (by first | exact trivial | decide | omega | (dsimp only; omega) | exact fun _ _ => rfl) ?_) | (apply And.intro) | (intro s hs))
  · exact ⟨(0, q), ⟨⟨by omega, by omega⟩, ht⟩, ⟨leF_int rfl, tapeN_le⟩⟩
  · refine ⟨((l.getD q.toNat default).tmod m + m, q + 1), ⟨⟨by omega, by omega⟩, ht.at (by omega) (by omega)⟩, ⟨leF_int ?_, leN_var ⟨⟨trivial, leC_sl (fun _ => rfl) rfl rfl fun i _ j _ => leC_int rfl⟩, leC_int ?_⟩⟩⟩
    · exact IntWalk.i64_in _ (by omega)
    · exact IntWalk.i64_in _ (by omega)
  · refine ⟨((l.getD q.toNat default).tmod m, q + 1), ⟨⟨by omega, by omega⟩, ht.at (by omega) (by omega)⟩, ⟨leF_int ?_, leN_var ⟨⟨trivial, leC_sl (fun _ => rfl) rfl rfl fun i _ j _ => leC_int rfl⟩, leC_int ?_⟩⟩⟩
    · rfl
    · exact IntWalk.i64_in _ (by omega)
def modF (v n : Int) : Int := if v.tmod n < 0 then v.tmod n + n else v.tmod n
theorem modF_lt {v n : Int} (h : 1 ≤ n) : 0 ≤ modF v n ∧ modF v n < n := by
  have := tmod_facts v n h
  unfold modF
  split <;> omega
theorem mod_ok (v n : Int) (h1 : 1 ≤ n) (h2 : n ≤ 4611686018427387904) : PureOk Try.prog 18 [(cI .i64).enc v, (cI .i64).enc n] ((cI .i64).enc (modF v n)) := by
  have a5 := tmod_facts v n h1
  refine pure_intro (wd := 1) (Q := mkQ LE0) (by decide) tysOk (q_of LE0_ok) mixed Try.func18 rfl _ (by show 2 ≤ _; decide) _ ?_
  repeat' (first | (apply And.intro <;> intro hc <;> (first | exact Bool.noConfusion hc | (simp only [decide_eq_true_eq, decide_eq_false_iff_not, Bool.not_eq_true', Bool.not_eq_false', beq_iff_eq, beq_eq_false_iff_ne, bne_iff_ne, bne_eq_false_iff_eq, Bool.true_eq_false, Bool.false_eq_true] at hc) | skip)) | (refine And.intro (by first | exact trivial | decide | omega | (dsimp only; omega) | exact fun _ _ => rfl) ?_) | (apply And.intro) | (intro s hs))
  · refine Done.mk (leF_int ?_)
    rw [modF, if_pos hc]
    exact IntWalk.i64_in _ (by omega)
  · refine Done.mk (leF_int ?_)
    rw [modF, if_neg hc]
abbrev nextE : Entry := tapeE (AC.cons (cI .i64) AC.nil) (fun a => 1 ≤ a.1 ∧ a.1 ≤ 4611686018427387904) (fun a (r : Int) => 0 ≤ r ∧ r < a.1) (cI .i64).enc
def LT0 : CsL := (37, some nextE) :: (18, some (pureE (AC.cons (cI .i64) (AC.cons (cI .i64) AC.nil)) (fun a => 1 ≤ a.2.1 ∧ a.2.1 ≤ 4611686018427387904) (fun a => modF a.1 a.2.1) (cI .i64).enc)) :: []
theorem LT0_ok : AllOk Try.prog LT0 := ⟨tapeE_ok ⟨_, Try.func37, rfl, by kernel_rfl⟩ fun n l q a ht hp => next_ok n l q a.1 ht hp.1 hp.2, pureE_ok ⟨_, Try.func18, rfl, by kernel_rfl⟩ fun a h => mod_ok a.1 a.2.1 h.1 h.2, trivial⟩
theorem bool_ok (n : Nat) (l : List Int) (q m : Int) (ht : TapeOk n (rI l) q) (h1 : 1 ≤ m) (h2 : m ≤ 4611686018427387904) :
    ∃ (r : Bool) (q' : Int), True ∧ TapeOk n (rI l) q' ∧ MethOk Try.prog 75 [(cI .i64).enc m] (tapeN n (rI l) q) (cB.enc r) (tapeN n (rI l) q') := by
  refine tape_intro (wd := 1) (Q := mkQ LT0) (by decide) tysOk (q_of LT0_ok) mixed Try.func75 rfl _ (by show 1 + 1 ≤ _; decide) (fun _ => nff_bool) ?_
  repeat' (first | (apply And.intro <;> intro hc <;> (first | exact Bool.noConfusion hc | (simp only [decide_eq_true_eq, decide_eq_false_iff_not, Bool.not_eq_true', Bool.not_eq_false', beq_iff_eq, beq_eq_false_iff_ne, bne_iff_ne, bne_eq_false_iff_eq, Bool.true_eq_false, Bool.false_eq_true] at hc) | skip)) | (refine And.intro (by first | exact trivial | decide | omega | (dsimp only; omega) | exact fun _ _ => rfl | exact ⟨by assumption, by first | exact trivial | decide | omega | (dsimp only; omega)⟩) ?_) | (apply And.intro) | (intro s hs))
  · exact ⟨(_, _), ⟨trivial, by assumption⟩, ⟨leF_bool rfl, tapeN_le⟩⟩
theorem bo_shI {H : Hp} {n : Nat} {l : List Int} : Bo H [] (.e (.c (.sl true n 1 (rI l)))) (.e (.c (.sl true n 1 (rI l)))) := by
  rintro cx r w v st ⟨a, cap, rfl, h1, h2⟩
  refine ⟨a, cap, rfl, h1, fun h0 => ?_⟩
  obtain ⟨ad, rfl, hs, ho, hX, hlt, hc⟩ := h2 h0
  refine ⟨ad, rfl, hs, fun ⟨k, e, x, q1, q2, q3, _⟩ => ho ⟨k, e, x, q1, q2, q3⟩, fun _ h => h.elim (hX rfl) ho, hlt, fun i hi j hj => ?_⟩
  obtain ⟨u, hu, hr⟩ := hc i hi j hj
  exact ⟨u, hu, hr⟩
theorem new_ok (n : Nat) (l : List Int) : NewOk Try.prog 33 [.e (.c (.sl true n 1 (rI l)))] none none (tapeN (min n 400) (rI l) 0) := by
  refine new_intro (wd := 1) (Q := mkQ LE0) (by decide) tysOk (q_of LE0_ok) mixed Try.func33 rfl _ (by show 1 ≤ _; decide) tapeN_nf ?_
  repeat' (first | (apply And.intro <;> intro hc <;> (first | exact Bool.noConfusion hc | (simp only [decide_eq_true_eq, decide_eq_false_iff_not, Bool.not_eq_true', Bool.not_eq_false', beq_iff_eq, beq_eq_false_iff_ne, bne_iff_ne, bne_eq_false_iff_eq, Bool.true_eq_false, Bool.false_eq_true] at hc) | skip)) | (refine And.intro (by first | exact trivial | decide | omega | (dsimp only; omega) | exact fun _ _ => rfl) ?_) | (apply And.intro) | (intro s hs))
  · refine ⟨⟨some 9, leF_ptr rfl, ?_⟩⟩
    exact leN_var ⟨⟨trivial, leC_sl (fun _ => rfl) (by show 400 - 0 = min n 400; omega) rfl fun i _ j _ => leC_int (by rw [Nat.zero_add])⟩, leC_int rfl⟩
  · refine ⟨⟨some 6, leF_ptr rfl, ?_⟩⟩
    exact leN_var ⟨⟨trivial, leC_sl (fun _ => rfl) (by omega) rfl fun i _ j _ => leC_int rfl⟩, leC_int rfl⟩
def newTapeE : Entry := fun args H nm _ =>
  match args with
  | [.e (.c (.sl true n s f))] => bif Nat.beq s 1 then some fun K => (∃ l, f = rI l ∧ rngL l) ∧ ∀ m, ∀ q, TapeOk m f q → K (one (.ptr nm 0 0 false)) [(nm, some (tapeN m f q))] [] else none
  | _ => none
theorem newTapeE_ok : EntOk Try.prog 33 newTapeE := by
  refine ⟨fun args H nm wd q hwd hq K hK => ?_, fun args H nm wd q hq K K' hKK hK => ?_⟩
  · unfold newTapeE at hq
    split at hq
    · rename_i n s f
      obtain ⟨hb, hq⟩ := cond_some hq
      subst hq
      have hb := Nat.eq_of_beq_eq_true hb
      subst hb
      obtain ⟨⟨l, rfl, hl⟩, hK⟩ := hK
      refine ⟨_, _, _, callR_new (args' := [.e (.c (.sl true n 1 (rI l)))]) (rd := []) ⟨_, Try.func33, rfl, by kernel_rfl⟩ hwd (kd := none) (rest := none) (fun l h => by cases h) (fun H' _ => ⟨rfl, fun i x y hx hy => ?_⟩) (new_ok n l), hK (min n 400) 0 ⟨by omega, by omega, by omega, l, rfl, hl⟩⟩
      cases i with
      | zero => simp only [List.getElem?_cons_zero, Option.some.injEq] at hx hy; subst hx hy; exact bo_shI
      | succ i => cases i <;> cases hx
    · cases hq
  · unfold newTapeE at hq
    split at hq
    · obtain ⟨hb, hq⟩ := cond_some hq
      subst hq
      exact ⟨hK.1, fun m q h => hKK _ _ _ (hK.2 m q h)⟩
    · cases hq
abbrev boolE : Entry := tapeE (AC.cons (cI .i64) AC.nil) (fun a => 1 ≤ a.1 ∧ a.1 ≤ 4611686018427387904) (fun a (r : Bool) => True) cB.enc
def LTb : CsL := (75, some boolE) :: (33, some newTapeE) :: LT0
theorem LTb_ok : AllOk Try.prog LTb := ⟨tapeE_ok ⟨_, Try.func75, rfl, by kernel_rfl⟩ fun n l q a ht hp => bool_ok n l q a.1 ht hp.1 hp.2, newTapeE_ok, LT0_ok⟩
end Go.Proofs.Ytjknkfjhcapocaa.AX
