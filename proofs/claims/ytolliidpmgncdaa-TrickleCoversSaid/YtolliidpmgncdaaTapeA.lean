/- The tape of the makers, by AX. -/
import Derived.Test.YtolliidpmgncdaaTys
import Derived.Test.YtolliidpmgncdaaAxFn
import Derived.Laws.BitsAllLaws
import Derived.IntWalk
namespace Go.Proofs.Ytolliidpmgncdaa.AX
set_option linter.unusedVariables false
set_option linter.unusedSimpArgs false
def LE : CsL := []
theorem LE_ok : AllOk Try.prog LE := trivial

def iD : CV → Int
  | .int _ n => n
  | _ => 0
def tapeN (n : Nat) (f : Nat → Nat → CV) (p : Int) : Ent := ⟨72, 2, nth [.sl n 1 f, .int .i64 p]⟩
structure TapeOk (n : Nat) (f : Nat → Nat → CV) (p : Int) : Prop where
  len : n ≤ 400
  lo : 0 ≤ p
  hi : p ≤ n
  cell : ∀ i, i < n → ∃ z, f i 0 = .int .i64 z ∧ -9223372036854775808 ≤ z ∧ z ≤ 9223372036854775807
def nextV (n : Nat) (f : Nat → Nat → CV) (p m : Int) : Int :=
  if (n : Int) ≤ p then 0 else if (iD (f p.toNat 0)).tmod m < 0 then (iD (f p.toNat 0)).tmod m + m else (iD (f p.toNat 0)).tmod m
def nextP (n : Nat) (p : Int) : Int := if (n : Int) ≤ p then p else p + 1

theorem TapeOk.next {n : Nat} {f : Nat → Nat → CV} {p : Int} (h : TapeOk n f p) : TapeOk n f (nextP n p) := by
  refine ⟨h.len, ?_, ?_, h.cell⟩ <;> unfold nextP <;> split <;> have := h.lo <;> have := h.hi <;> omega
theorem tmod_facts (x m : Int) (h : 1 ≤ m) : -m < x.tmod m ∧ x.tmod m < m := by
  have h1 := Int.tmod_lt_of_pos x (show 0 < m by omega)
  have h2 := Int.tmod_lt_of_pos (-x) (show 0 < m by omega)
  rw [Int.neg_tmod] at h2
  omega
theorem nextV_lt {n : Nat} {f : Nat → Nat → CV} {p m : Int} (h : 1 ≤ m) : 0 ≤ nextV n f p m ∧ nextV n f p m < m := by
  unfold nextV
  have := tmod_facts (iD (f p.toNat 0)) m h
  split
  · omega
  · split <;> omega
theorem leC_slI {nx n : Nat} {f : Nat → Nat → CV} {p : Int} (h : TapeOk n f p) : LeC nx (.sl n 1 f) (.sl n 1 f) := by
  refine leC_sl rfl rfl fun i hi j hj => ?_
  obtain ⟨z, hz, _⟩ := h.cell i hi
  have : j = 0 := by omega
  subst this
  rw [hz]
  exact leC_int rfl
theorem tapeN_le {nx n : Nat} {f : Nat → Nat → CV} {p : Int} (h : TapeOk n f p) : LeN nx (tapeN n f p) (tapeN n f p) := by
  refine leN_all ⟨⟨trivial, leC_slI h⟩, leC_int rfl⟩

theorem next_ok (n : Nat) (l : Nat → Int) (p m : Int) (hl : TapeOk n (fun i _ => .int .i64 (l i)) p) (h1 : 1 ≤ m) (h2 : m ≤ 4611686018427387904) :
    MethOk Try.prog 15 [(cI .i64).enc m] (tapeN n (fun i _ => .int .i64 (l i)) p) (.e (.c (.int .i64 (nextV n (fun i _ => .int .i64 (l i)) p m)))) (tapeN n (fun i _ => .int .i64 (l i)) (nextP n p)) := by
  refine meth_intro (C := mkC LE) (Q := mkQ LE) tysOk (callsOk_of LE_ok) (local_of LE_ok) (q_of LE_ok) mixed Try.func15 rfl (by show 2 ≤ _; decide) rfl (by intro x hx; first | (cases hx; done) | (simp only [List.mem_cons, List.not_mem_nil, or_false] at hx; subst hx; exact leF_int rfl)) ?_
  have a1 := hl.len
  have a2 := hl.lo
  have a3 := hl.hi
  have a4 : ¬ (n : Int) ≤ p → -9223372036854775808 ≤ l p.toNat ∧ l p.toNat ≤ 9223372036854775807 := fun h => by
    obtain ⟨z, hz, h3⟩ := hl.cell p.toNat (by omega)
    injection hz with _ hz
    rw [hz]; exact h3
  have a5 := tmod_facts (l p.toNat) m h1
  have e1 : (n : Int) ≤ p → nextV n (fun i _ => .int .i64 (l i)) p m = 0 ∧ nextP n p = p := fun h => ⟨if_pos h, if_pos h⟩
  have e2 : ¬ (n : Int) ≤ p → nextV n (fun i _ => .int .i64 (l i)) p m = (if (l p.toNat).tmod m < 0 then (l p.toNat).tmod m + m else (l p.toNat).tmod m) ∧ nextP n p = p + 1 := fun h => ⟨if_neg h, if_neg h⟩
  repeat' (first | (apply And.intro <;> intro hc <;> (first | exact Bool.noConfusion hc | (simp only [decide_eq_true_eq, decide_eq_false_iff_not, Bool.not_eq_true', Bool.not_eq_false', beq_iff_eq, beq_eq_false_iff_ne, bne_iff_ne, bne_eq_false_iff_eq, Bool.true_eq_false, Bool.false_eq_true] at hc) | skip)) | (refine And.intro (by first | decide | omega | (dsimp only; omega)) ?_) | (apply And.intro) | (intro s hs))
  · refine ⟨leF_int (e1 hc).1.symm, leN_all ⟨⟨trivial, leC_slI hl⟩, leC_int (e1 hc).2.symm⟩⟩
  · rename_i h3
    refine ⟨leF_int ?_, leN_all ⟨⟨trivial, leC_slI hl⟩, leC_int ?_⟩⟩
    · rw [(e2 h3).1, if_pos hc]
      simp (disch := omega) only [IntWalk.i64_in, IntWalk.u8_in, IntWalk.u16_in, IntWalk.u32_in, IntWalk.u64_in, Int.tdiv_eq_ediv_of_nonneg, Int.tmod_eq_emod_of_nonneg]
    · rw [(e2 h3).2]
      simp (disch := omega) only [IntWalk.i64_in, IntWalk.u8_in, IntWalk.u16_in, IntWalk.u32_in, IntWalk.u64_in, Int.tdiv_eq_ediv_of_nonneg, Int.tmod_eq_emod_of_nonneg]
  · rename_i h3
    refine ⟨leF_int ?_, leN_all ⟨⟨trivial, leC_slI hl⟩, leC_int ?_⟩⟩
    · rw [(e2 h3).1, if_neg hc]
    · rw [(e2 h3).2]
      simp (disch := omega) only [IntWalk.i64_in, IntWalk.u8_in, IntWalk.u16_in, IntWalk.u32_in, IntWalk.u64_in, Int.tdiv_eq_ediv_of_nonneg, Int.tmod_eq_emod_of_nonneg]

def nextG (e : Ent) (rest : List FV) : Option (Option Prop × FV × Ent) :=
  match e, rest with
  | ⟨t, n, g⟩, [x] =>
    match g 0, g 1, (cI .i64).dec x with
    | .sl k sz f, .int .i64 p, some m => bif Nat.beq t 72 && Nat.beq n 2 && Nat.beq sz 1 then
        some (some (TapeOk k f p ∧ 1 ≤ m ∧ m ≤ 4611686018427387904), .e (.c (.int .i64 (nextV k f p m))), tapeN k f (nextP k p)) else none
    | _, _, _ => none
  | _, _ => none
def nextQ (e : Ent) (rest : List FV) : Option ((FV → Ent → Prop) → Prop) :=
  match e, rest with
  | ⟨_, _, g⟩, [x] =>
    match g 0, g 1, (cI .i64).dec x with
    | .sl k _ f, .int .i64 p, some m => some fun K => ∀ v q, 0 ≤ v ∧ v < m → TapeOk k f q → K (.e (.c (.int .i64 v))) (tapeN k f q)
    | _, _, _ => none
  | _, _ => none
theorem iD_eq {n : Nat} {f : Nat → Nat → CV} {p : Int} (h : TapeOk n f p) {i : Nat} (hi : i < n) : f i 0 = .int .i64 (iD (f i 0)) := by
  obtain ⟨z, hz, _⟩ := h.cell i hi
  rw [hz]; rfl
theorem next_meth (e : Ent) (rest : List FV) (p : Option Prop) (v : FV) (e' : Ent) (hg : nextG e rest = some (p, v, e')) (hp : preOk p) : ∃ e1 rest', LeN 0 e e1 ∧ rest.length = rest'.length ∧ (∀ (i : Nat) x y, rest[i]? = some x → rest'[i]? = some y → LeF 0 x y) ∧ MethOk Try.prog 15 rest' e1 v e' := by
  unfold nextG at hg
  split at hg
  · rename_i t n g x
    split at hg
    · rename_i k sz f q m h0 h1 hx
      cases hb : (Nat.beq t 72 && Nat.beq n 2 && Nat.beq sz 1) with
      | false => rw [hb] at hg; cases hg
      | true =>
        rw [hb, cond_true] at hg
        simp only [Bool.and_eq_true] at hb
        have b1 := Nat.eq_of_beq_eq_true hb.1.1
        have b2 := Nat.eq_of_beq_eq_true hb.1.2
        have b3 := Nat.eq_of_beq_eq_true hb.2
        subst b1 b2 b3
        simp only [Option.some.injEq, Prod.mk.injEq] at hg
        obtain ⟨rfl, rfl, rfl⟩ := hg
        obtain ⟨ht, hm1, hm2⟩ := hp
        have hcan : TapeOk k (fun i _ => .int .i64 (iD (f i 0))) q := ⟨ht.len, ht.lo, ht.hi, fun i hi => by
          obtain ⟨z, hz, h3⟩ := ht.cell i hi
          exact ⟨iD (f i 0), rfl, by rw [hz]; exact h3⟩⟩
        have hle : LeC 0 (.sl k 1 f) (.sl k 1 (fun i _ => .int .i64 (iD (f i 0)))) := leC_sl rfl rfl fun i hi j hj => by
          have : j = 0 := by omega
          subst this
          rw [iD_eq ht hi]; exact leC_int rfl
        have hle2 : LeC 0 (.sl k 1 (fun i _ => .int .i64 (iD (f i 0)))) (.sl k 1 f) := leC_sl rfl rfl fun i hi j hj => by
          have : j = 0 := by omega
          subst this
          rw [iD_eq ht hi]; exact leC_int rfl
        refine ⟨tapeN k (fun i _ => .int .i64 (iD (f i 0))) q, [(cI .i64).enc m], leN_all ⟨⟨trivial, ?_⟩, ?_⟩, rfl, fun i x y hx' hy' => ?_, ?_⟩
        · show LeC 0 (g 0) _
          rw [h0]; exact hle
        · show LeC 0 (g 1) _
          rw [h1]; exact leC_int rfl
        · match i, hx', hy' with
          | 0, hx', hy' => injection hx' with hx'; injection hy' with hy'; subst hx' hy'; exact (cI .i64).sound _ _ hx
        · have hv : nextV k f q m = nextV k (fun i _ => .int .i64 (iD (f i 0))) q m := rfl
          rw [hv]
          exact (next_ok k (fun i => iD (f i 0)) q m hcan hm1 hm2).mono (leN_all ⟨⟨trivial, hle2⟩, leC_int rfl⟩)
    · cases hg
  · cases hg

theorem next_ent : EntOk Try.prog 15 (methE nextG nextQ) := by
  refine methE_ok ⟨_, Try.func15, rfl, by kernel_rfl⟩ next_meth (fun e rest p v e' t hg hq hp K hK => ?_) (fun e rest t hq K K' hKK hK => ?_)
  · unfold nextG at hg
    unfold nextQ at hq
    split at hg
    · rename_i t n g x
      split at hg
      · rename_i k sz f q m h0 h1 hx
        simp only [h0, h1, hx] at hq
        injection hq with hq
        subst hq
        cases hb : (Nat.beq t 72 && Nat.beq n 2 && Nat.beq sz 1) with
        | false => rw [hb] at hg; cases hg
        | true =>
          rw [hb, cond_true] at hg
          simp only [Option.some.injEq, Prod.mk.injEq] at hg
          obtain ⟨rfl, rfl, rfl⟩ := hg
          obtain ⟨ht, hm1, hm2⟩ := hp
          exact hK _ _ (nextV_lt hm1) ht.next
      · cases hg
    · cases hg
  · unfold nextQ at hq
    split at hq
    · split at hq
      · injection hq with hq
        subst hq
        exact fun v q h1 h2 => hKK _ _ (hK v q h1 h2)
      · cases hq
    · cases hq

/-- The cells are numbers. -/
def RowOk (n : Nat) (f : Nat → Nat → CV) : Prop := ∀ i, i < n → ∃ z, f i 0 = .int .i64 z ∧ -9223372036854775808 ≤ z ∧ z ≤ 9223372036854775807
theorem RowOk.tape {n : Nat} {f : Nat → Nat → CV} (h : RowOk n f) : TapeOk (min n 400) f 0 := ⟨by omega, by omega, by omega, fun i hi => h i (by omega)⟩
theorem made_ok (n : Nat) (l : Nat → Int) : NewOk Try.prog 13 [.e (.c (.sl n 1 (fun i _ => .int .i64 (l i))))] (tapeN (min n 400) (fun i _ => .int .i64 (l i)) 0) := by
  refine new_intro (C := mkC LE) (Q := mkQ LE) tysOk (callsOk_of LE_ok) (local_of LE_ok) (q_of LE_ok) mixed Try.func13 rfl (by show 1 ≤ _; decide) (by intro x hx; first | (cases hx; done) | (simp only [List.mem_cons, List.not_mem_nil, or_false] at hx; subst hx; exact leC_sl rfl rfl fun i hi j hj => leC_int rfl)) ?_
  repeat' (first | (apply And.intro <;> intro hc <;> (first | exact Bool.noConfusion hc | (simp only [decide_eq_true_eq, decide_eq_false_iff_not, Bool.not_eq_true', Bool.not_eq_false', beq_iff_eq, beq_eq_false_iff_ne, bne_iff_ne, bne_eq_false_iff_eq, Bool.true_eq_false, Bool.false_eq_true] at hc) | skip)) | (refine And.intro (by first | decide | omega | (dsimp only; omega)) ?_) | (apply And.intro) | (intro s hs))
  · refine ⟨⟨_, rfl, leN_all ⟨⟨trivial, leC_sl ?_ rfl fun i hi j hj => leC_int rfl⟩, leC_int rfl⟩⟩⟩
    show 400 = min n 400
    omega
  · refine ⟨⟨_, rfl, leN_all ⟨⟨trivial, leC_sl ?_ rfl fun i hi j hj => leC_int rfl⟩, leC_int rfl⟩⟩⟩
    omega
def madeG (args : List FV) : Option (Option Prop × Ent) :=
  match args with
  | [.e (.c (.sl n sz f))] => bif Nat.beq sz 1 then some (some (RowOk n f), tapeN (min n 400) f 0) else none
  | _ => none
theorem made_ent : EntOk Try.prog 13 (newE madeG) := by
  refine newE_ok ⟨_, Try.func13, rfl, by kernel_rfl⟩ fun args p e' hg hp => ?_
  unfold madeG at hg
  split at hg
  · rename_i n sz f
    cases hb : Nat.beq sz 1 with
    | false => rw [hb] at hg; cases hg
    | true =>
      rw [hb, cond_true] at hg
      have b3 := Nat.eq_of_beq_eq_true hb
      subst b3
      simp only [Option.some.injEq, Prod.mk.injEq] at hg
      obtain ⟨rfl, rfl⟩ := hg
      have hp' : RowOk n f := hp
      refine ((made_ok n fun i => iD (f i 0)).mono (leN_all ⟨⟨trivial, leC_sl rfl rfl fun i hi j hj => ?_⟩, leC_int rfl⟩)).le rfl fun i x y hx hy => ?_
      · have : j = 0 := by omega
        subst this
        rw [iD_eq hp'.tape hi]; exact leC_int rfl
      · match i, hx, hy with
        | 0, hx, hy =>
          injection hx with hx; injection hy with hy; subst hx hy
          refine leC_sl rfl rfl fun i hi j hj => ?_
          have : j = 0 := by omega
          subst this
          obtain ⟨z, hz, _⟩ := hp' i hi
          rw [hz]; exact leC_int rfl
  · cases hg

def modV (v m : Int) : Int := if v.tmod m < 0 then v.tmod m + m else v.tmod m
theorem modV_lt {v m : Int} (h : 1 ≤ m) : 0 ≤ modV v m ∧ modV v m < m := by
  unfold modV
  have := tmod_facts v m h
  split <;> omega
theorem mod_ok (v m : Int) (h1 : 1 ≤ m) (h2 : m ≤ 4611686018427387904) : PureOk Try.prog 19 [(cI .i64).enc v, (cI .i64).enc m] (.e (.c (.int .i64 (modV v m)))) := by
  refine pure_intro (C := mkC LE) (Q := mkQ LE) tysOk (callsOk_of LE_ok) (local_of LE_ok) (q_of LE_ok) mixed Try.func19 rfl _ (by show 2 ≤ _; decide) _ (by intro x hx; first | (cases hx; done) | (simp only [List.mem_cons, List.not_mem_nil, or_false] at hx; rcases hx with rfl | rfl <;> exact leF_int rfl)) ?_
  have a5 := tmod_facts v m h1
  repeat' (first | (apply And.intro <;> intro hc <;> (first | exact Bool.noConfusion hc | (simp only [decide_eq_true_eq, decide_eq_false_iff_not, Bool.not_eq_true', Bool.not_eq_false', beq_iff_eq, beq_eq_false_iff_ne, bne_iff_ne, bne_eq_false_iff_eq, Bool.true_eq_false, Bool.false_eq_true] at hc) | skip)) | (refine And.intro (by first | decide | omega | (dsimp only; omega)) ?_) | (apply And.intro) | (intro s hs))
  · refine Fin.mk (leF_int ?_)
    unfold modV
    rw [if_pos hc]
    simp (disch := omega) only [IntWalk.i64_in, IntWalk.u8_in, IntWalk.u16_in, IntWalk.u32_in, IntWalk.u64_in, Int.tdiv_eq_ediv_of_nonneg, Int.tmod_eq_emod_of_nonneg]
  · refine Fin.mk (leF_int ?_)
    unfold modV
    rw [if_neg hc]
theorem mod_ent : EntOk Try.prog 19 (pureE (pure2 (cI .i64) (cI .i64) fun v m => (some (1 ≤ m ∧ m ≤ 4611686018427387904), .e (.c (.int .i64 (modV v m)))))) :=
  pure2_ok ⟨_, Try.func19, rfl, by kernel_rfl⟩ fun a b h => mod_ok a b h.1 h.2
def LT : CsL := [(15, some (methE nextG nextQ)), (13, some (newE madeG)), (19, some (pureE (pure2 (cI .i64) (cI .i64) fun v m => (some (1 ≤ m ∧ m ≤ 4611686018427387904), .e (.c (.int .i64 (modV v m)))))))]
theorem LT_ok : AllOk Try.prog LT := ⟨next_ent, made_ent, mod_ent, trivial⟩
end Go.Proofs.Ytolliidpmgncdaa.AX
