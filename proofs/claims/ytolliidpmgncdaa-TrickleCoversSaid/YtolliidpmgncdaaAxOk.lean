/- One operation: the theorem step_ok. -/
import Derived.Test.YtolliidpmgncdaaAxStep
namespace Go.Proofs.Ytolliidpmgncdaa.AX
open Go.RowKit
set_option linter.unusedVariables false
set_option linter.unusedSimpArgs false
section
variable {P : Program} {cx : Cx} {r : Nat → Option Nat} {H : Hp} {w : World} {T : Tys} {C : Cs} {fr : Fr} {a : Act} {nm : Nat}

theorem wp_of_runs {o : Oper} {sr : SR} {K : Act → World → Prop} {Q : Exit → Act → World → Prop} (h : Runs P cx r H w nm sr (execOp a.eval o))
    (hK : ∀ v w', Left cx r H w nm sr v w' → K (a.put o.dst v) w') : o.wp P a w K Q := by
  obtain ⟨v, w', hv, hl⟩ := h
  unfold Oper.wp
  rcases hv with hv | ⟨hv, rfl⟩
  · rw [hv]; exact hK v w' hl
  · rw [hv]; exact hK undef w' hl

theorem see_some {x : FV} {sr : SR} (h : (x.see fun v => some (⟨none, v, [], []⟩ : SR)) = some sr) : sr = ⟨none, x, [], []⟩ := by
  rw [FV.see_eq] at h
  injection h with h
  exact h.symm

theorem callB_ok (hT : TysOk P T) (st : St cx r H w) {b : Builtin} {ts : Array TypeId} {args : List FV} {vals : Array Value} {sr : SR} {type : TypeId} {cs : Array Bool} (h : callB T b ts args = some sr) (hp : preOk sr.pre) (hl : RelL r (own cx r H) w args vals) :
    Runs P cx r H w nm sr (builtin b ts type cs vals) := by
  unfold callB at h
  split at h
  · rename_i n sz f
    split at h
    · rename_i t ht
      split at h
      · rename_i hTt
        injection h with h
        subst h
        obtain ⟨d, hd, htd⟩ := (hT t _ hTt).under
        obtain ⟨rfl, _, _⟩ := td_slice htd
        obtain ⟨v, hv⟩ : ∃ v, vals = #[v] := by
          obtain ⟨l⟩ := vals
          match l, hl.1 with
          | [v], _ => exact ⟨v, rfl⟩
        subst hv
        obtain ⟨ad, cap, rfl, _⟩ := hl.2 0 _ _ rfl rfl
        exact runs_val st (v := .int .i64 n) (by simp [Builtin.len_, ht, run_underlying hd, goInt]) rfl rfl
      · cases h
    · cases h
  · rename_i k x k' y
    injection h with h
    subst h
    obtain ⟨v, u, hv⟩ : ∃ v u, vals = #[v, u] := by
      obtain ⟨l⟩ := vals
      match l, hl.1 with
      | [v, u], _ => exact ⟨v, u, rfl⟩
    subst hv
    have e1 : v = .int k x := hl.2 0 _ _ rfl rfl
    have e2 : u = .int k' y := hl.2 1 _ _ rfl rfl
    subst e1 e2
    exact runs_val st (v := .int k (if y < x then y else x)) (by simp [Builtin.min_, Builtin.min2]) rfl rfl
  · rename_i k x k' y
    injection h with h
    subst h
    obtain ⟨v, u, hv⟩ : ∃ v u, vals = #[v, u] := by
      obtain ⟨l⟩ := vals
      match l, hl.1 with
      | [v, u], _ => exact ⟨v, u, rfl⟩
    subst hv
    have e1 : v = .int k x := hl.2 0 _ _ rfl rfl
    have e2 : u = .int k' y := hl.2 1 _ _ rfl rfl
    subst e1 e2
    exact runs_val st (v := .int k (if x < y then y else x)) (by simp [Builtin.max_, Builtin.max2]) rfl rfl
  · cases h

theorem step_ok (hT : TysOk P T) (hC : CallsOk P C) {o : Oper} {sr : SR} (hs : stepF T C o.op fr H nm = some sr) (hp : preOk sr.pre) (st : St cx r H w) (hf : FrOk cx r H w fr a.tmps) (hr : r nm = none) (hh : hget H nm = none)
    {K : Act → World → Prop} {Q : Exit → Act → World → Prop} (hK : ∀ v w', Left cx r H w nm sr v w' → K (a.put o.dst v) w') : o.wp P a w K Q := by
  obtain ⟨dst, op, type, pos, after, guard⟩ := o
  have E : ∀ x, (ev fr x).rel r (own cx r H) w (a.eval x) := ev_ok hf
  cases op <;> simp only [stepF, reduceCtorEq] at hs
  case move x =>
    have := see_some hs
    subst this
    exact (fun h => wp_of_runs h hK) (runs_val st (s := pure (a.eval x)) rfl rfl (E x))
  case assign x =>
    have := see_some hs
    subst this
    exact (fun h => wp_of_runs h hK) (runs_val st (s := pure (a.eval x)) rfl rfl (E x))
  case pick c x y =>
    have hc := E c
    split at hs
    · rename_i hcv
      rw [hcv] at hc
      have hc' : a.eval c = .bool true := hc
      have := see_some hs
      subst this
      refine (fun h => wp_of_runs h hK) ⟨a.eval x, w, .inl ?_, left_still st rfl (E x)⟩
      simp [execOp, hc', asBool]
    · rename_i hcv
      rw [hcv] at hc
      have hc' : a.eval c = .bool false := hc
      have := see_some hs
      subst this
      refine (fun h => wp_of_runs h hK) ⟨a.eval y, w, .inl ?_, left_still st rfl (E y)⟩
      simp [execOp, hc', asBool]
    · cases hs
  case alloc t =>
    split at hs
    · rename_i d0 s0 z0 eq0 ht
      injection hs with hs
      subst hs
      exact (fun h => wp_of_runs h hK) (step_runs_alloc hT st hr hh ht)
    · cases hs
  case box t x =>
    split at hs
    · rename_i y hy
      split at hs
      · rename_i n f hc
        injection hs with hs
        subst hs
        exact (fun h => wp_of_runs h hK) (step_runs_box st hr hh (fv_e (E x) hy) hc)
      · cases hs
    · cases hs
  case build t parts =>
    split at hs
    · rename_i fs sz z eq0 ht
      cases hall : fs.all (fun x => x.2.2.isSome) with
      | false => rw [hall] at hs; cases hs
      | true =>
        rw [hall, cond_true] at hs
        split at hs
        · rename_i f hfill
          injection hs with hs
          subst hs
          exact (fun h => wp_of_runs h hK) (step_runs_build hT st ht hall E hfill)
        · cases hs
    · rename_i n e es b sz z eq0 ht
      cases hb : Nat.blt 0 es with
      | false => rw [hb] at hs; cases hs
      | true =>
        have hb' := blt_pos hb
        rw [hb, cond_true] at hs
        split at hs
        · rename_i f hfill
          injection hs with hs
          subst hs
          exact (fun h => wp_of_runs h hK) (step_runs_buildA hT st ht E (by simp only [hb]; exact hfill) hb')
        · cases hs
    · cases hs
  case load t x =>
    have hx := E x
    split at hs
    · rename_i ti k off ht hxe
      rw [hxe] at hx
      obtain ⟨b, hb, hv⟩ := hx
      split at hs
      · rename_i et en ef he
        refine wp_of_runs (o := ⟨dst, .load t x, type, pos, after, guard⟩) ?_ hK
        have h1 := step_runs_load (nm := nm) hT st (b := b) (off := off) ht hs hp (blk_cells st he hb)
        rw [← hv] at h1
        exact h1
      · cases hs
    · rename_i ti m g ht hxe
      rw [hxe] at hx
      obtain ⟨b, off, hv, ho, hlt, hc⟩ := rp_addr hx
      refine wp_of_runs (o := ⟨dst, .load t x, type, pos, after, guard⟩) ?_ hK
      have h1 := step_runs_load (nm := nm) hT st (b := b) (off := off) ht hs hp hc
      rw [← hv] at h1
      exact h1
    · cases hs
  case store t x y =>
    have hx := E x
    split at hs
    · rename_i d0 tsz z0 eq0 k off z ht hxe hye
      rw [hxe] at hx
      split at hs
      · rename_i et en ef n g he hc
        cases hb0 : Nat.beq n tsz with
        | false => rw [hb0] at hs; cases hs
        | true =>
          rw [hb0, cond_true] at hs
          have e1 : n = tsz := Nat.eq_of_beq_eq_true hb0
          injection hs with hs
          subst hs
          exact (fun h => wp_of_runs h hK) (step_runs_store hT st ht hx he (fv_e (E y) hye) hc ⟨e1, hp⟩)
      · cases hs
    · cases hs
  case nilCheck x =>
    have hx := E x
    split at hs
    · rename_i k off hxe
      rw [hxe] at hx
      injection hs with hs
      subst hs
      have hx' := hx
      obtain ⟨b, hb, hv⟩ := hx
      exact (fun h => wp_of_runs h hK) ⟨a.eval x, w, .inl (by simp [execOp, hv]), left_still st rfl hx'⟩
    · rename_i m g hxe
      rw [hxe] at hx
      injection hs with hs
      subst hs
      have hx' := hx
      obtain ⟨ad, hv, _⟩ := hx
      exact (fun h => wp_of_runs h hK) ⟨a.eval x, w, .inl (by simp [execOp, hv]), left_still st rfl hx'⟩
    · cases hs
  case binOp op t x y ty =>
    split at hs
    · rename_i p v hb
      rw [CV.see_eq] at hs
      injection hs with hs
      subst hs
      obtain ⟨z, h1, h2⟩ := bin_ok (P := P) hT hb hp (E x) (E y) x y
      exact (fun h => wp_of_runs h hK) (runs_val st h1 rfl h2)
    · cases hs
  case unOp op t x =>
    have hx := E x
    split at hs
    · rename_i b hxe
      rw [hxe] at hx
      have hv : a.eval x = .bool b := hx
      injection hs with hs
      subst hs
      exact (fun h => wp_of_runs h hK) (runs_val st (s := Op.unary .not (a.eval x)) (v := .bool (!b)) (by rw [hv]; rfl) rfl rfl)
    · rename_i k n hxe
      rw [hxe] at hx
      have hv : a.eval x = .int k n := hx
      injection hs with hs
      subst hs
      exact (fun h => wp_of_runs h hK) (runs_val st (s := Op.unary .neg (a.eval x)) (v := .int k (k.wrap (0 - n))) (by rw [hv]; rfl) rfl rfl)
    · rename_i k n hxe
      rw [hxe] at hx
      have hv : a.eval x = .int k n := hx
      injection hs with hs
      subst hs
      exact (fun h => wp_of_runs h hK) (runs_val st (s := Op.unary .xor (a.eval x)) (v := .int k (bits .xor k (if k.signed then -1 else k.max) n)) (by rw [hv]; rfl) rfl rfl)
    · cases hs
  case convert src dst' x =>
    have hx := E x
    split at hs
    · rename_i tis k sz z eq0 n hsrc hdst hxe
      rw [hxe] at hx
      have hv : a.eval x = .int _ _ := hx
      injection hs with hs
      subst hs
      obtain ⟨d, hd, _⟩ := (hT _ _ hsrc).under
      obtain ⟨d', hd', htd⟩ := (hT _ _ hdst).under
      have := td_int htd
      subst this
      exact (fun h => wp_of_runs h hK) (runs_val st (s := convert src dst' (a.eval x)) (by rw [hv]; simp [convert, run_underlying hd, run_underlying hd', Conv.intToInt]) rfl rfl)
    · cases hs
  case fieldAddr t x i =>
    have hx := E x
    split at hs
    · rename_i fs sz z eq0 k off ht hxe
      rw [hxe] at hx
      obtain ⟨d, hd, htd⟩ := (hT _ _ ht).under
      obtain ⟨fa, rfl, hfa⟩ := td_struct htd
      obtain ⟨b, hb, hv⟩ := hx
      split at hs
      · rename_i o s bb hi
        obtain ⟨f, hf1, hf2, hf3, _⟩ := fs_at hfa hi
        cases hb0 : Nat.blt 0 s with
        | false => rw [hb0] at hs; cases hs
        | true =>
          rw [hb0, cond_true] at hs
          injection hs with hs
          subst hs
          refine (fun h => wp_of_runs h hK) (runs_val st (s := Instr.fieldAt t (a.eval x) i) (by rw [hv]; exact run_fieldAt hd hf1 hf3 (blt_pos hb0) b off) rfl ?_)
          exact ⟨b, hb, by rw [hf2]⟩
      · cases hs
    · rename_i fs sz z eq0 m g ht hxe
      rw [hxe] at hx
      obtain ⟨d, hd, htd⟩ := (hT _ _ ht).under
      obtain ⟨fa, rfl, hfa⟩ := td_struct htd
      obtain ⟨b, off, hv, ho, hlt, hc⟩ := rp_addr hx
      split at hs
      · rename_i o s bb hi
        obtain ⟨f, hf1, hf2, hf3, _⟩ := fs_at hfa hi
        cases hb0 : Nat.blt 0 s with
        | false => rw [hb0] at hs; cases hs
        | true =>
          rw [hb0, cond_true] at hs
          injection hs with hs
          subst hs
          refine (fun h => wp_of_runs h hK) (runs_val st (s := Instr.fieldAt t (a.eval x) i) (by rw [hv]; exact run_fieldAt hd hf1 hf3 (blt_pos hb0) b off) rfl ?_)
          refine rp_mk ho hlt fun j hj => ?_
          rw [hf2, Nat.add_assoc]
          exact hc (o + j) (by omega)
      · cases hs
    · cases hs
  case field t x i =>
    have hx := E x
    split at hs
    · rename_i fs sz z eq0 n g ht hxe
      rw [hxe] at hx
      obtain ⟨cs, hv, hn, hg⟩ := hx
      obtain ⟨d, hd, htd⟩ := (hT _ _ ht).under
      obtain ⟨fa, rfl, hfa⟩ := td_struct htd
      split at hs
      · rename_i o s hi
        obtain ⟨f, hf1, hf2, hf3, hf4⟩ := fs_at hfa hi
        obtain ⟨df, hdf, haf⟩ := under_agg hf4
        cases hb0 : Nat.blt 0 s with
        | false => rw [hb0] at hs; cases hs
        | true =>
          rw [hb0, cond_true] at hs
          injection hs with hs
          subst hs
          obtain ⟨j, hj, hjs⟩ := szN_info hf3 (blt_pos hb0)
          refine (fun h => wp_of_runs h hK) (runs_val st (s := Instr.field t (a.eval x) i) (v := .agg (cs.extract o (o + s))) ?_ rfl (extract_rel hn hp hg))
          rw [hv]
          simp only [Instr.field, Sem.run_bind, run_underlying hd, Result.andThen_ok, hf1, asAgg, Sem.run_pure, run_partA hdf haf hj, hf2, hjs]
      · rename_i o s hi
        obtain ⟨f, hf1, hf2, hf3, hf4⟩ := fs_at hfa hi
        obtain ⟨df, hdf, haf⟩ := under_agg hf4
        rw [CV.see_eq] at hs
        injection hs with hs
        subst hs
        have hlt : o < cs.size := by rw [hn]; exact hp
        have hco : cs[o]? = some cs[o] := Array.getElem?_eq_getElem hlt
        refine (fun h => wp_of_runs h hK) (runs_val st (s := Instr.field t (a.eval x) i) (v := cs[o]) ?_ rfl (hg _ _ hco))
        rw [hv]
        simp only [Instr.field, Sem.run_bind, run_underlying hd, Result.andThen_ok, hf1, asAgg, Sem.run_pure, hf2, run_partC hdf haf cs o hco]
      · cases hs
    · cases hs
  case indexAddr t x ix =>
    have hx := E x
    have hix := E ix
    split at hs
    · rename_i e es eb sz0 z eq0 n sz f k i ht hxe hie
      rw [hxe] at hx
      rw [hie] at hix
      have hiv : a.eval ix = .int _ i := hix
      cases hb0 : (Nat.blt 0 es && Nat.beq sz es) with
      | false => rw [hb0] at hs; cases hs
      | true =>
        rw [hb0, cond_true] at hs
        simp only [Bool.and_eq_true] at hb0
        have e0 := blt_pos hb0.1
        have e1 : sz = es := Nat.eq_of_beq_eq_true hb0.2
        injection hs with hs
        subst hs
        obtain ⟨ad0, cap, hv, hnc, hcap, hc⟩ := hx
        obtain ⟨d, hd, htd⟩ := (hT _ _ ht).under
        obtain ⟨rfl, hes, hinf⟩ := td_slice htd
        obtain ⟨j, hj, hjs⟩ := szN_info hes e0
        have hp' : 0 ≤ i ∧ i < (n : Int) := hp
        obtain ⟨ad, rfl, hsp, ho, hlt, hcell⟩ := hc (by omega)
        refine (fun h => wp_of_runs h hK) (runs_val st (s := Instr.indexAt t (a.eval x) (a.eval ix)) (v := .pointer (some ⟨ad.block, ad.off + i.toNat * es, none⟩)) ?_ rfl ?_)
        · rw [hv, hiv]
          simp only [Instr.indexAt, asIntOf, Sem.run_bind, Sem.run_pure, run_underlying hd, Result.andThen_ok, hp', and_self, if_true, run_size hj, hjs, addS hsp]
        · refine rp_mk ho hlt fun q hq => ?_
          obtain ⟨u, hu, hru⟩ := hcell i.toNat (by omega) q hq
          exact ⟨u, by rw [Nat.add_assoc, ← e1]; exact hu, hru⟩
    · rename_i n e es b sz0 z eq0 k off kk i ht hxe hie
      rw [hxe] at hx
      rw [hie] at hix
      have hiv : a.eval ix = .int _ i := hix
      cases hb0 : Nat.blt 0 es with
      | false => rw [hb0] at hs; cases hs
      | true =>
        rw [hb0, cond_true] at hs
        have e0 := blt_pos hb0
        injection hs with hs
        subst hs
        obtain ⟨b, hb, hv⟩ := hx
        obtain ⟨d, hd, htd⟩ := (hT _ _ ht).under
        obtain ⟨rfl, hes, _⟩ := td_arr htd
        obtain ⟨j, hj, hjs⟩ := szN_info hes e0
        have hp' : 0 ≤ i ∧ i < (n : Int) := hp
        refine (fun h => wp_of_runs h hK) (runs_val st (s := Instr.indexAt t (a.eval x) (a.eval ix)) (v := .pointer (some ⟨b, off + i.toNat * es, none⟩)) ?_ rfl ⟨b, hb, rfl⟩)
        rw [hv, hiv]
        simp only [Instr.indexAt, asIntOf, Instr.sureAddr, Sem.run_bind, Sem.run_pure, run_underlying hd, Result.andThen_ok, hp', and_self, if_true, run_size hj, hjs, addN]
    · rename_i n e es b sz0 z eq0 m g kk i ht hxe hie
      rw [hxe] at hx
      rw [hie] at hix
      have hiv : a.eval ix = .int _ i := hix
      cases hb0 : Nat.blt 0 es with
      | false => rw [hb0] at hs; cases hs
      | true =>
        rw [hb0, cond_true] at hs
        have e0 := blt_pos hb0
        injection hs with hs
        subst hs
        obtain ⟨b, off, hv, ho, hlt, hc⟩ := rp_addr hx
        obtain ⟨d, hd, htd⟩ := (hT _ _ ht).under
        obtain ⟨rfl, hes, _⟩ := td_arr htd
        obtain ⟨j, hj, hjs⟩ := szN_info hes e0
        have hp' : 0 ≤ i ∧ i < (n : Int) := hp
        refine (fun h => wp_of_runs h hK) (runs_val st (s := Instr.indexAt t (a.eval x) (a.eval ix)) (v := .pointer (some ⟨b, off + i.toNat * es, none⟩)) ?_ rfl ?_)
        · rw [hv, hiv]
          simp only [Instr.indexAt, asIntOf, Instr.sureAddr, Sem.run_bind, Sem.run_pure, run_underlying hd, Result.andThen_ok, hp', and_self, if_true, run_size hj, hjs, addN]
        · refine rp_mk ho hlt fun q hq => ?_
          rw [Nat.add_assoc]
          exact hc _ (by omega)
    · cases hs
  case index t x ix =>
    have hx := E x
    have hix := E ix
    split at hs
    · rename_i n e es sz0 z eq0 m g kk i ht hxe hie
      rw [hxe] at hx
      rw [hie] at hix
      have hiv : a.eval ix = .int _ i := hix
      cases hb0 : Nat.blt 0 es with
      | false => rw [hb0] at hs; cases hs
      | true =>
        rw [hb0, cond_true] at hs
        have e0 := blt_pos hb0
        injection hs with hs
        subst hs
        obtain ⟨cs, hv, hn, hg⟩ := hx
        obtain ⟨d, hd, htd⟩ := (hT _ _ ht).under
        obtain ⟨rfl, hes, hea⟩ := td_arr htd
        obtain ⟨de, hde, hae⟩ := under_agg hea
        obtain ⟨j, hj, hjs⟩ := szN_info hes e0
        have hp' : 0 ≤ i ∧ i < (n : Int) ∧ (i.toNat + 1) * es ≤ m := hp
        have hp2 : 0 ≤ i ∧ i < (n : Int) := ⟨hp'.1, hp'.2.1⟩
        have hle : i.toNat * es + es ≤ m := by have := hp'.2.2; rw [Nat.add_mul, Nat.one_mul] at this; exact this
        refine (fun h => wp_of_runs h hK) (runs_val st (s := Instr.index t (a.eval x) (a.eval ix)) (v := .agg (cs.extract (i.toNat * es) (i.toNat * es + es))) ?_ rfl (extract_rel hn hle hg))
        rw [hv, hiv]
        simp only [Instr.index, asIntOf, Sem.run_bind, Sem.run_pure, run_underlying hd, Result.andThen_ok, hp2, and_self, if_true, run_size hj, hjs, run_partA hde hae hj]
    · rename_i n e es sz0 z eq0 m g kk i ht hxe hie
      rw [hxe] at hx
      rw [hie] at hix
      have hiv : a.eval ix = .int _ i := hix
      cases hb0 : Nat.blt 0 es with
      | false => rw [hb0] at hs; cases hs
      | true =>
        rw [hb0, cond_true, CV.see_eq] at hs
        have e0 := blt_pos hb0
        injection hs with hs
        subst hs
        obtain ⟨cs, hv, hn, hg⟩ := hx
        obtain ⟨d, hd, htd⟩ := (hT _ _ ht).under
        obtain ⟨rfl, hes, hea⟩ := td_arr htd
        obtain ⟨de, hde, hae⟩ := under_agg hea
        obtain ⟨j, hj, hjs⟩ := szN_info hes e0
        have hp' : 0 ≤ i ∧ i < (n : Int) ∧ i.toNat * es < m := hp
        have hp2 : 0 ≤ i ∧ i < (n : Int) := ⟨hp'.1, hp'.2.1⟩
        have hlt : i.toNat * es < cs.size := by rw [hn]; exact hp'.2.2
        have hco : cs[i.toNat * es]? = some (cs[i.toNat * es]'hlt) := Array.getElem?_eq_getElem hlt
        refine (fun h => wp_of_runs h hK) (runs_val st (s := Instr.index t (a.eval x) (a.eval ix)) (v := cs[i.toNat * es]'hlt) ?_ rfl (hg _ _ hco))
        rw [hv, hiv]
        simp only [Instr.index, asIntOf, Sem.run_bind, Sem.run_pure, run_underlying hd, Result.andThen_ok, hp2, and_self, if_true, run_size hj, hjs, run_partC hde hae cs _ hco]
    · cases hs
  case extract x i =>
    have hx := E x
    split at hs
    · rename_i l hxe
      rw [hxe] at hx
      obtain ⟨vs, hv, hn, hg⟩ := hx
      split at hs
      · rename_i y hy
        rw [EV.see_eq] at hs
        injection hs with hs
        subst hs
        have hlt : i < vs.size := by rw [hn]; exact (List.getElem?_eq_some_iff.1 hy).1
        have hco : vs[i]? = some vs[i] := Array.getElem?_eq_getElem hlt
        refine (fun h => wp_of_runs h hK) (runs_val st (s := Instr.extract (a.eval x) i) (v := vs[i]) ?_ rfl (hg i y _ hy hco))
        rw [hv]
        simp only [Instr.extract, hco, Sem.run_pure]
      · cases hs
    · cases hs
  case slice t x lo hi mx =>
    have hx := E x
    cases mx with
    | some m => simp only [reduceCtorEq] at hs
    | none =>
    simp only at hs
    split at hs
    · rename_i e es sz0 z eq0 n sz f ht hxe
      rw [hxe] at hx
      obtain ⟨ad0, cap, hv, hnc, hcap, hc⟩ := hx
      obtain ⟨d, hd, htd⟩ := (hT _ _ ht).under
      obtain ⟨rfl, hes, hinf⟩ := td_slice htd
      obtain ⟨je, hje⟩ := Option.isSome_iff_exists.1 hinf
      have hjes : je.size = es := by rw [← hes]; simp [szN, hje]
      have main : ∀ (l h : Nat) (low high : Option Value), l ≤ h → h ≤ n → (Instr.sliceBounds true n cap low high none).run P w = .ok (l, h, cap) w → (l = 0 ∨ (sz = es ∧ je.size = es)) →
          ∃ v, (Instr.sliceAt t (a.eval x) low high none).run P w = .ok v w ∧ (CV.sl (h - l) sz (fun i => f (l + i))).rel r (own cx r H) w v := by
        intro l h low high hlh hhn hb hl
        refine ⟨.slice (if cap = l then ad0 else ad0.map (·.add (l * je.size))) (h - l) (cap - l), ?_, _, _, rfl, by omega, by omega, fun h0 => ?_⟩
        · rw [hv]
          simp only [Instr.sliceAt, Sem.run_bind, run_underlying hd, Result.andThen_ok, Instr.slice, hb, run_size hje, Sem.run_pure]
        · obtain ⟨ad, rfl, hsp, ho, hlt, hcell⟩ := hc (by omega)
          rw [if_neg (by omega)]
          refine ⟨⟨ad.block, ad.off + l * je.size, none⟩, by simp [addS hsp], rfl, ho, hlt, fun i hi j hj => ?_⟩
          obtain ⟨u, hu, hru⟩ := hcell (l + i) (by omega) j hj
          refine ⟨u, ?_, hru⟩
          rw [← hu]
          have : ad.off + l * je.size + (i * sz + j) = ad.off + ((l + i) * sz + j) := by
            rcases hl with rfl | ⟨e1, e2⟩
            · simp
            · rw [e2, ← e1, Nat.add_mul]; omega
          simp only [this]
      split at hs
      · rename_i h1 h2
        injection hs with hs
        subst hs
        have hlo : lo = none := by cases lo with | none => rfl | some y => cases h1
        have hhi : hi = none := by cases hi with | none => rfl | some y => cases h2
        subst hlo hhi
        obtain ⟨v, g1, g2⟩ := main 0 n none none (Nat.zero_le _) (Nat.le_refl _) (by simp [Instr.sliceBounds]) (.inl rfl)
        simp only [Nat.zero_add, Nat.sub_zero] at g2
        exact (fun h => wp_of_runs h hK) (runs_val st g1 rfl g2)
      · rename_i k l h1 h2
        have hhi : hi = none := by cases hi with | none => rfl | some y => cases h2
        subst hhi
        obtain ⟨y, rfl⟩ : ∃ y, lo = some y := by cases lo with | none => cases h1 | some y => exact ⟨y, rfl⟩
        have hy := E y
        simp only [Option.map_some, Option.some.injEq] at h1
        rw [h1] at hy
        have hyv : a.eval y = .int _ l := hy
        cases hb0 : Nat.beq sz es with
        | false => rw [hb0] at hs; cases hs
        | true =>
          rw [hb0, cond_true] at hs
          have e1 : sz = es := Nat.eq_of_beq_eq_true hb0
          injection hs with hs
          subst hs
          have hp' : 0 ≤ l ∧ l ≤ (n : Int) := hp
          obtain ⟨v, g1, g2⟩ := main l.toNat n (some (a.eval y)) none (by omega) (Nat.le_refl _) (by
            simp [Instr.sliceBounds, Instr.sliceBound, hyv, asIntOf, hp']) (.inr ⟨e1, hjes⟩)
          exact (fun h => wp_of_runs h hK) (runs_val st g1 rfl g2)
      · rename_i k h h1 h2
        have hlo : lo = none := by cases lo with | none => rfl | some y => cases h1
        subst hlo
        obtain ⟨y, rfl⟩ : ∃ y, hi = some y := by cases hi with | none => cases h2 | some y => exact ⟨y, rfl⟩
        have hy := E y
        simp only [Option.map_some, Option.some.injEq] at h2
        rw [h2] at hy
        have hyv : a.eval y = .int _ h := hy
        injection hs with hs
        subst hs
        have hp' : 0 ≤ h ∧ h ≤ (n : Int) := hp
        obtain ⟨v, g1, g2⟩ := main 0 h.toNat none (some (a.eval y)) (Nat.zero_le _) (by omega) (by
          simp [Instr.sliceBounds, Instr.sliceBound, hyv, asIntOf, hp', show h ≤ (cap : Int) by omega]) (.inl rfl)
        simp only [Nat.zero_add, Nat.sub_zero] at g2
        exact (fun h => wp_of_runs h hK) (runs_val st g1 rfl g2)
      · rename_i k l k' h h1 h2
        obtain ⟨y, rfl⟩ : ∃ y, lo = some y := by cases lo with | none => cases h1 | some y => exact ⟨y, rfl⟩
        obtain ⟨y2, rfl⟩ : ∃ y, hi = some y := by cases hi with | none => cases h2 | some y => exact ⟨y, rfl⟩
        have hy := E y
        have hy2 := E y2
        simp only [Option.map_some, Option.some.injEq] at h1 h2
        rw [h1] at hy
        rw [h2] at hy2
        have hyv : a.eval y = .int _ l := hy
        have hyv2 : a.eval y2 = .int _ h := hy2
        cases hb0 : Nat.beq sz es with
        | false => rw [hb0] at hs; cases hs
        | true =>
          rw [hb0, cond_true] at hs
          have e1 : sz = es := Nat.eq_of_beq_eq_true hb0
          injection hs with hs
          subst hs
          have hp' : 0 ≤ l ∧ l ≤ h ∧ h ≤ (n : Int) := hp
          obtain ⟨v, g1, g2⟩ := main l.toNat h.toNat (some (a.eval y)) (some (a.eval y2)) (by omega) (by omega) (by
            simp [Instr.sliceBounds, Instr.sliceBound, hyv, hyv2, asIntOf, show 0 ≤ h by omega, show h ≤ (cap : Int) by omega, hp'.1, hp'.2.1, show ¬ max h 0 < l by omega]) (.inr ⟨e1, hjes⟩)
          exact (fun h => wp_of_runs h hK) (runs_val st g1 rfl g2)
      · cases hs
    · cases hs
  case call c =>
    obtain ⟨callee, args, ts⟩ := c
    cases callee with
    | builtin b =>
      simp only at hs
      refine wp_of_runs ?_ hK
      have h1 := fun cs => callB_ok (nm := nm) (type := type) (cs := cs) hT st hs hp (relL_of (xs := args) hf)
      simp only [execOp, resolve, invoke, pure_bind]
      exact h1 _
    | invoke x m => cases hs
    | value f =>
      cases f with
      | func f =>
        simp only at hs
        obtain ⟨⟨fn, h1, h2, h3⟩, h4⟩ := hC cx r H w nm f _ (args.map a.eval) sr hs hp st hr hh (relL_of hf)
        unfold Oper.wp
        have hrun : (execOp a.eval ⟨dst, .call ⟨.value (.func f), args, ts⟩, type, pos, after, guard⟩).run P w = .ok (.enter f (args.map a.eval)) w := by
          have h2' : fn.body.isNone = false := by cases hb : fn.body with | none => rw [hb] at h2; cases h2 | some c => rfl
          have h3' : ¬ fn.name = "runtime.NumGoroutine" := by simpa using h3
          simp [execOp, resolve, Act.eval, Deferred.ofValue, invoke, callFunc, h1, h3']
          intro hb; rw [hb] at h2; cases h2
        rw [hrun, Oper.upon_enter]
        refine h4.mono fun e w' he => ?_
        obtain ⟨v, rfl, hl⟩ := he
        exact hK v w' hl
      | tmp t => cases hs
      | const v => cases hs
      | global g => cases hs
end
end Go.Proofs.Ytolliidpmgncdaa.AX
