/- One operation: the theorem step_ok. -/
import Derived.Test.YtjknkfjhcapocaaBCopy
namespace Go.Proofs.Ytjknkfjhcapocaa.AX
open Go.RowKit
set_option linter.unusedVariables false
set_option linter.unusedSimpArgs false
section
variable {P : Program} {cx : Cx} {r : Ren} {H : Hp} {w : World} {T : Tys} {fr : Fr} {a : Act} {nm wd : Nat}

theorem wp_of_runs {o : Oper} {sr : SR} {K : Act → World → Prop} {Q : Exit → Act → World → Prop} (h : Runs P cx r H w nm wd sr (execOp a.eval o))
    (hK : ∀ v w', Left cx r H w nm wd sr v w' → K (a.put o.dst v) w') : o.wp P a w K Q := by
  obtain ⟨v, w', hv, hl⟩ := h
  unfold Oper.wp
  rcases hv with hv | ⟨hv, rfl⟩
  · rw [hv]; exact hK v w' hl
  · rw [hv]; exact hK undef w' hl

theorem see_some {x : FV} {sr : SR} (h : (x.see fun v => some (⟨none, v, [], []⟩ : SR)) = some sr) : sr = ⟨none, x, [], []⟩ := by
  rw [FV.see_eq] at h
  injection h with h
  exact h.symm

theorem two_vals {vals : Array Value} {x y : FV} {X W : Nat → Prop} (hl : RelL r X W w [x, y] vals) : ∃ v u, vals = #[v, u] ∧ x.rel r X W w v ∧ y.rel r X W w u := by
  obtain ⟨l⟩ := vals
  match l, hl.1 with
  | [v, u], _ => exact ⟨v, u, rfl, hl.2 0 _ _ rfl rfl, hl.2 1 _ _ rfl rfl⟩
theorem one_val {vals : Array Value} {x : FV} {X W : Nat → Prop} (hl : RelL r X W w [x] vals) : ∃ v, vals = #[v] ∧ x.rel r X W w v := by
  obtain ⟨l⟩ := vals
  match l, hl.1 with
  | [v], _ => exact ⟨v, rfl, hl.2 0 _ _ rfl rfl⟩
theorem runs_of {s : Sem Value} {sr : SR} (h : ∃ v w', s.run P w = .ok v w' ∧ Left cx r H w nm wd sr v w') : Runs P cx r H w nm wd sr (do pure (.value (← s))) := by
  obtain ⟨v, w', h1, h2⟩ := h
  exact ⟨v, w', .inl (by simp [h1]), h2⟩

theorem callB_ok (hT : TysOk P T) (st : St cx r H w) (hfr : Free r H nm wd) (hwd : 0 < wd) {b : Builtin} {ts : Array TypeId} {args : List FV} {vals : Array Value} {sr : SR} {type : TypeId} {cs : Array Bool} (h : callB T b ts args H nm = some sr) (hp : preOk sr.pre) (hl : RelL r cx.X (wr r H) w args vals) :
    Runs P cx r H w nm wd sr (builtin b ts type cs vals) := by
  unfold callB at h
  split at h
  · -- len
    rename_i x
    split at h
    · rename_i t ht
      split at h
      · rename_i hTt
        obtain ⟨d, hd, htd⟩ := (hT t _ hTt).under
        obtain ⟨rfl, _, _⟩ := td_slice htd
        obtain ⟨v, rfl, hv⟩ := one_val hl
        split at h
        · rename_i n _ _
          injection h with h; subst h
          obtain ⟨ad, cap, rfl, _⟩ := hv
          exact runs_val st (v := .int .i64 n) (by simp [Builtin.len_, ht, run_underlying hd, goInt]) rfl rfl
        · rename_i n
          injection h with h; subst h
          obtain ⟨ad, cap, rfl, _⟩ := hv
          exact runs_val st (v := .int .i64 n) (by simp [Builtin.len_, ht, run_underlying hd, goInt]) rfl rfl
        · rename_i n _
          injection h with h; subst h
          obtain ⟨ad, cap, rfl, _⟩ := hv
          exact runs_val st (v := .int .i64 n) (by simp [Builtin.len_, ht, run_underlying hd, goInt]) rfl rfl
        · injection h with h; subst h
          have : v = .slice none 0 0 := hv
          subst this
          exact runs_val st (v := .int .i64 0) (by simp [Builtin.len_, ht, run_underlying hd, goInt]) rfl rfl
        · cases h
      · cases h
    · cases h
  · rename_i k x k' y
    injection h with h
    subst h
    obtain ⟨v, u, rfl, e1, e2⟩ := two_vals hl
    have e1 : v = .int k x := e1
    have e2 : u = .int k' y := e2
    subst e1 e2
    exact runs_val st (v := .int k (if y < x then y else x)) (by simp [Builtin.min_, Builtin.min2]) rfl rfl
  · rename_i k x k' y
    injection h with h
    subst h
    obtain ⟨v, u, rfl, e1, e2⟩ := two_vals hl
    have e1 : v = .int k x := e1
    have e2 : u = .int k' y := e2
    subst e1 e2
    exact runs_val st (v := .int k (if x < y then y else x)) (by simp [Builtin.max_, Builtin.max2]) rfl rfl
  · -- append
    rename_i x y
    split at h
    · rename_i t t' hts
      cases hbt : Nat.beq t t' with
      | false => rw [hbt] at h; cases h
      | true =>
        rw [hbt, cond_true] at h
        have := Nat.eq_of_beq_eq_true hbt
        subst this
        have hts' : ts = #[t, t] := Array.ext' (by simpa using hts)
        subst hts'
        obtain ⟨vx, vy, rfl, hx, hy⟩ := two_vals hl
        split at h
        · rename_i e es s0 z0 eq0 by0 hTt
          obtain ⟨d, hd, htd⟩ := (hT t _ hTt).under
          obtain ⟨rfl, hes, hinf⟩ := td_slice htd
          split at h
          · rename_i d1 s1 z eq1 bytes m g p rd hTe hsrc
            cases hb0 : Nat.blt 0 es with
            | false => rw [hb0] at hsrc; cases hsrc
            | true =>
              rw [hb0, cond_true] at hsrc
              have e0 := blt_pos hb0
              cases hbz : Nat.beq z.length es with
              | false => rw [hbz] at h; cases h
              | true =>
                rw [hbz, cond_true] at h
                have ez : z.length = es := Nat.eq_of_beq_eq_true hbz
                split at h
                · injection h with h; subst h
                  obtain ⟨hp1, hp2⟩ := both_ok.1 hp
                  obtain ⟨news, hlies⟩ := src_lies st (by omega) hsrc hp1 hy
                  have : vx = .slice none 0 0 := hx
                  subst this
                  have hp3 : m * bytes ≤ 140737488355328 ∧ m ≤ 9223372036854775807 := hp2
                  exact runs_of (s := Builtin.append_ #[t, t] type #[.slice none 0 0, vy]) (step_append_nil hT st hfr hwd hd hTe (by omega) hes ez hlies hp3.1 hp3.2 _ _)
                · rename_i k i n
                  split at h
                  · rename_i et en esz f he
                    cases hbc : (Nat.beq i 0 && Nat.beq esz es && Nat.beq et e) with
                    | false => rw [hbc] at h; cases h
                    | true =>
                      rw [hbc, cond_true] at h
                      simp only [Bool.and_eq_true] at hbc
                      have c1 : i = 0 := Nat.eq_of_beq_eq_true hbc.1.1
                      have c2 : esz = es := Nat.eq_of_beq_eq_true hbc.1.2
                      have c3 : et = e := Nat.eq_of_beq_eq_true hbc.2
                      subst c1 c2 c3
                      injection h with h; subst h
                      obtain ⟨hp1, hp2⟩ := both_ok.1 hp
                      obtain ⟨news, hlies⟩ := src_lies st (by omega) hsrc hp1 hy
                      have hp3 : n = en ∧ (n + m) * bytes ≤ 140737488355328 ∧ n + m ≤ 9223372036854775807 := hp2
                      obtain ⟨rfl, hp4, hp5⟩ := hp3
                      exact runs_of (s := Builtin.append_ #[t, t] type #[vx, vy]) (step_append_own hT st hfr hwd hd hTe (by omega) hes ez he hx hlies hp4 hp5 _ _)
                  · cases h
                · cases h
          · cases h
        · cases h
    · cases h
  · -- copy
    rename_i x y
    split at h
    · rename_i t ht
      obtain ⟨vx, vy, rfl, hx, hy⟩ := two_vals hl
      split at h
      · rename_i e es s0 z0 eq0 by0 hTt
        obtain ⟨d, hd, htd⟩ := (hT t _ hTt).under
        obtain ⟨rfl, hes, hinf⟩ := td_slice htd
        split at h
        · rename_i m g p rd hsrc
          cases hb0 : Nat.blt 0 es with
          | false => rw [hb0] at hsrc; cases hsrc
          | true =>
            rw [hb0, cond_true] at hsrc
            have e0 := blt_pos hb0
            obtain ⟨je, hje, hjes⟩ := szN_info hes e0
            split at h
            · rename_i k i n
              split at h
              · rename_i et en esz f he
                cases hbc : Nat.beq esz es with
                | false => rw [hbc] at h; cases h
                | true =>
                  rw [hbc, cond_true] at h
                  have c2 : esz = es := Nat.eq_of_beq_eq_true hbc
                  injection h with h; subst h
                  obtain ⟨hp1, hp2⟩ := both_ok.1 hp
                  obtain ⟨news, hlies⟩ := src_lies st (by omega) hsrc hp1 hy
                  exact runs_of (s := Builtin.copy_ ts type #[vx, vy]) (step_copy_os ht hd hje st he (c2.trans hjes.symm) hx hp2 (by rw [hjes]; exact hlies) _ _)
              · cases h
            · rename_i k i j n s
              split at h
              · rename_i et en esz v f he
                cases hbc : Nat.beq s es with
                | false => rw [hbc] at h; cases h
                | true =>
                  rw [hbc, cond_true] at h
                  have c2 : s = es := Nat.eq_of_beq_eq_true hbc
                  injection h with h; subst h
                  obtain ⟨hp1, hp2⟩ := both_ok.1 hp
                  obtain ⟨news, hlies⟩ := src_lies st (by omega) hsrc hp1 hy
                  have hp3 : i < en ∧ j + n * s ≤ esz := hp2
                  exact runs_of (s := Builtin.copy_ ts type #[vx, vy]) (step_copy_oa ht hd hje (by omega) st he (c2.trans hjes.symm) hx hp3.1 hp3.2 (by rw [hjes]; exact hlies) _ _)
              · cases h
            · cases h
        · cases h
      · cases h
    · cases h
  · cases h

theorem fn_vals {n m : Nat} {c : Nat → CV} {args : List FV} {vals fs cs : Array Value} {X W : Nat → Prop} (hl : RelL r X W w args vals) (h1 : fs.size = n) (h2 : cs.size = m) (h3 : ∀ k u, fs[k]? = some u → (c k).rel r X W w u) (h4 : ∀ k u, cs[k]? = some u → (c (n + k)).rel r X W w u) :
    RelL r X W w (fnArgs n m c args) (fs ++ vals ++ cs) := by
  have hlen : ((List.range n).map (fun k => one (c k)) ++ args).length = n + args.length := by simp
  refine ⟨by simp [fnArgs, h1, h2, hl.1], fun i x u hx hu => ?_⟩
  unfold fnArgs at hx
  rcases Nat.lt_or_ge i n with hi | hi
  · rw [List.append_assoc, List.getElem?_append_left (by simpa using hi)] at hx
    rw [Array.append_assoc, Array.getElem?_append_left (by omega)] at hu
    simp only [List.getElem?_map, List.getElem?_range, hi, if_true, Option.map_some, Option.some.injEq] at hx
    subst hx
    exact h3 i u hu
  · rcases Nat.lt_or_ge i (n + args.length) with hj | hj
    · rw [List.getElem?_append_left (by rw [hlen]; exact hj), List.getElem?_append_right (by simpa using hi)] at hx
      have e1 : (fs ++ vals).size = n + args.length := by simp [h1, hl.1]
      rw [Array.getElem?_append_left (by omega), Array.getElem?_append_right (by omega), h1] at hu
      simp only [List.length_map, List.length_range] at hx
      exact hl.2 (i - n) x u hx hu
    · rw [List.getElem?_append_right (by rw [hlen]; exact hj), hlen] at hx
      have e1 : (fs ++ vals).size = n + args.length := by simp [h1, hl.1]
      rw [Array.getElem?_append_right (by omega), e1] at hu
      have hk : i - (n + args.length) < m := by have := (Array.getElem?_eq_some_iff.1 hu).1; omega
      simp only [List.getElem?_map, List.getElem?_range, hk, if_true, Option.map_some, Option.some.injEq] at hx
      subst hx
      exact h4 _ u hu

theorem mapM_cells {X W : Nat → Prop} : ∀ (xs : List Operand) (l : List CV), (xs.map (ev fr)).mapM (fun | .e (.c x) => some x | _ => none : FV → Option CV) = some l → (∀ x, (ev fr x).rel r X W w (a.eval x)) → l.length = xs.length ∧ ∀ (k : Nat) u, (xs.map a.eval)[k]? = some u → (nth l k).rel r X W w u := by
  intro xs
  induction xs with
  | nil =>
    intro l h _
    simp only [List.map_nil, List.mapM_nil, Option.pure_def, Option.some.injEq] at h
    subst h
    exact ⟨rfl, fun k u hu => by simp at hu⟩
  | cons x xs ih =>
    intro l h hf
    simp only [List.map_cons, List.mapM_cons, Option.bind_eq_bind, Option.bind_eq_some_iff, Option.pure_def, Option.some.injEq] at h
    obtain ⟨y, hy, l', hl', rfl⟩ := h
    obtain ⟨h1, h2⟩ := ih l' hl' hf
    refine ⟨by simp [h1], fun k u hu => ?_⟩
    cases k with
    | zero =>
      simp only [List.map_cons, List.getElem?_cons_zero, Option.some.injEq] at hu
      subst hu
      have hx := hf x
      split at hy
      · rename_i z hz
        injection hy with hy; subst hy
        rw [hz] at hx
        exact hx
      · cases hy
    | succ k =>
      simp only [List.map_cons, List.getElem?_cons_succ] at hu
      exact h2 k u hu

theorem step_ok (hT : TysOk P T) {o : Oper} {sr : SR} (hs : stepF T o.op fr H nm = some sr) (hp : preOk sr.pre) (st : St cx r H w) (hf : FrOk cx r H w fr a.tmps) (hfr : Free r H nm wd) (hwd : 0 < wd)
    {K : Act → World → Prop} {Q : Exit → Act → World → Prop} (hK : ∀ v w', Left cx r H w nm wd sr v w' → K (a.put o.dst v) w') : o.wp P a w K Q := by
  obtain ⟨dst, op, type, pos, after, guard⟩ := o
  have E : ∀ x, (ev fr x).rel r cx.X (wr r H) w (a.eval x) := ev_ok hf
  cases op <;> simp only [stepF, reduceCtorEq] at hs
  case move x =>
    have := see_some hs
    subst this
    exact (fun h => wp_of_runs h hK) (runs_val st (s := pure (a.eval x)) rfl rfl (E x))
  case assign x =>
    have := see_some hs
    subst this
    exact (fun h => wp_of_runs h hK) (runs_val st (s := pure (a.eval x)) rfl rfl (E x))
  case pick c x y =>
    have hc := E c
    split at hs
    · rename_i hcv
      rw [hcv] at hc
      have hc' : a.eval c = .bool true := hc
      have := see_some hs
      subst this
      refine (fun h => wp_of_runs h hK) ⟨a.eval x, w, .inl ?_, left_still st rfl (E x)⟩
      simp [execOp, hc', asBool]
    · rename_i hcv
      rw [hcv] at hc
      have hc' : a.eval c = .bool false := hc
      have := see_some hs
      subst this
      refine (fun h => wp_of_runs h hK) ⟨a.eval y, w, .inl ?_, left_still st rfl (E y)⟩
      simp [execOp, hc', asBool]
    · cases hs
  case alloc t =>
    split at hs
    · rename_i d0 s0 z0 eq0 by0 ht
      cases hb : Nat.blt 0 z0.length with
      | false => rw [hb] at hs; cases hs
      | true =>
        rw [hb, cond_true] at hs
        injection hs with hs
        subst hs
        exact (fun h => wp_of_runs h hK) (step_runs_alloc hT st hfr hwd ht (Nat.le_of_ble_eq_true hb))
    · cases hs
  case box t x =>
    split at hs
    · rename_i y hy
      split at hs
      · rename_i n f hc
        cases hb : Nat.blt 0 n with
        | false => rw [hb] at hs; cases hs
        | true =>
          rw [hb, cond_true] at hs
          injection hs with hs
          subst hs
          exact (fun h => wp_of_runs h hK) (step_runs_box st hfr hwd (fv_e (E x) hy) hc (Nat.le_of_ble_eq_true hb))
      · cases hs
    · cases hs
  case buildSlice t len parts =>
    split at hs
    · rename_i e es s0 z0 eq0 by0 hTt
      obtain ⟨d, hd, htd⟩ := (hT t _ hTt).under
      obtain ⟨rfl, hes, hinf⟩ := td_slice htd
      split at hs
      · rename_i d1 s1 z eq1 by1 hTe
        cases hb : (Nat.blt 0 es && Nat.beq z.length es && Nat.ble (len * es) 16777216) with
        | false => rw [hb] at hs; cases hs
        | true =>
          rw [hb, cond_true] at hs
          simp only [Bool.and_eq_true] at hb
          have e0 := blt_pos hb.1.1
          have ez : z.length = es := Nat.eq_of_beq_eq_true hb.1.2
          have el := Nat.le_of_ble_eq_true hb.2
          split at hs
          · rename_i f hparts
            injection hs with hs
            subst hs
            exact (fun h => wp_of_runs h hK) (step_lit hT st hfr hwd hd hTe (by omega) hes ez el E hparts)
          · cases hs
      · cases hs
    · cases hs
  case makeSlice t l c =>
    have hl := E l
    have hc := E c
    split at hs
    · rename_i e es s0 z0 eq0 by0 kl vl kc vc hTt hle hce
      rw [hle] at hl
      rw [hce] at hc
      have hl' : a.eval l = .int kl vl := hl
      have hc' : a.eval c = .int kc vc := hc
      obtain ⟨d, hd, htd⟩ := (hT t _ hTt).under
      obtain ⟨rfl, hes, hinf⟩ := td_slice htd
      split at hs
      · rename_i d1 s1 z eq1 by1 hTe
        cases hb : (Nat.blt 0 es && Nat.beq z.length es) with
        | false => rw [hb] at hs; cases hs
        | true =>
          rw [hb, cond_true] at hs
          simp only [Bool.and_eq_true] at hb
          have e0 := blt_pos hb.1
          have ez : z.length = es := Nat.eq_of_beq_eq_true hb.2
          injection hs with hs
          subst hs
          have hp' : 0 ≤ vl ∧ vl ≤ vc ∧ (by1 : Int) * vc ≤ 281474976710656 ∧ vc ≤ 9223372036854775807 := hp
          refine wp_of_runs (o := ⟨dst, .makeSlice t l c, type, pos, after, guard⟩) ?_ hK
          have h1 := step_make (P := P) (nm := nm) (wd := wd) hT st hfr hwd hd hTe (by omega) hes ez (kl := kl) (kc := kc) hp'.1 hp'.2.1 hp'.2.2.1 hp'.2.2.2 (some (0 ≤ vl ∧ vl ≤ vc ∧ (by1 : Int) * vc ≤ 281474976710656 ∧ vc ≤ 9223372036854775807)) []
          rw [← hl', ← hc'] at h1
          exact h1
      · cases hs
    · cases hs
  case makeFunc fn first captured =>
    cases fn with
    | func f =>
      simp only at hs
      split at hs
      · rename_i l l' h1 h2
        injection hs with hs
        subst hs
        obtain ⟨a1, a2⟩ := mapM_cells (a := a) (r := r) (w := w) (X := cx.X) (W := wr r H) first.toList l h1 E
        obtain ⟨b1, b2⟩ := mapM_cells (a := a) (r := r) (w := w) (X := cx.X) (W := wr r H) captured.toList l' h2 E
        refine (fun h => wp_of_runs h hK) (runs_val st (s := Instr.makeFunc (.func f) (first.map a.eval) (captured.map a.eval)) (v := .func (.func f) (first.map a.eval) (captured.map a.eval)) rfl rfl ?_)
        refine ⟨_, _, rfl, by simp [a1], by simp [b1], fun k u hu => ?_, fun k u hu => ?_⟩
        · have hlt : k < l.length := by have := (Array.getElem?_eq_some_iff.1 hu).1; simp at this; rw [a1]; simpa using this
          have e1 : nth (l ++ l') k = nth l k := by unfold nth; rw [List.getElem?_append_left hlt]
          rw [e1]
          exact a2 k u (by simpa using hu)
        · have e1 : nth (l ++ l') (l.length + k) = nth l' k := by unfold nth; rw [List.getElem?_append_right (by omega)]; congr 2; omega
          rw [e1]
          exact b2 k u (by simpa using hu)
      · cases hs
    | method n => cases hs
    | methodOf t n => cases hs
    | via t p f b => cases hs
    | yield l => cases hs
  case build t parts =>
    split at hs
    · rename_i fs sz z eq0 by0 ht
      cases hall : fs.all (fun x => x.2.2.isSome) with
      | false => rw [hall] at hs; cases hs
      | true =>
        rw [hall, cond_true] at hs
        split at hs
        · rename_i f hfill
          injection hs with hs
          subst hs
          exact (fun h => wp_of_runs h hK) (step_runs_build hT st ht hall E hfill)
        · cases hs
    · rename_i n e es b sz z eq0 by0 ht
      cases hb : Nat.blt 0 es with
      | false => rw [hb] at hs; cases hs
      | true =>
        have hb' := blt_pos hb
        rw [hb, cond_true] at hs
        split at hs
        · rename_i f hfill
          injection hs with hs
          subst hs
          exact (fun h => wp_of_runs h hK) (step_runs_buildA hT st ht E (by simp only [hb]; exact hfill) hb')
        · cases hs
    · cases hs
  case load t x =>
    have hx := E x
    split at hs
    · rename_i ti k i j sym ht hxe
      rw [hxe] at hx
      obtain ⟨b, hb, hv⟩ := hx
      split at hs
      · rename_i et en es v ef he
        refine wp_of_runs (o := ⟨dst, .load t x, type, pos, after, guard⟩) ?_ hK
        have h1 := step_runs_load (nm := nm) (wd := wd) hT st (b := b.b) (off := i * b.sz + j) ht hs hp (fun hq q hq2 => by
          have hi : i + 1 ≤ en := fits_ok hq
          obtain ⟨u, hu, hr⟩ := blk_cell st he hb (i := i) (j := j + q) (show i < en by omega) (show j + q < es by omega)
          exact ⟨u, by rw [Nat.add_assoc]; exact hu, hr⟩)
        rw [← hv] at h1
        exact h1
      · cases hs
    · rename_i ti sh m g ht hxe
      rw [hxe] at hx
      obtain ⟨b, off, hv, ho, hX, hlt, hc⟩ := rp_addr hx
      refine wp_of_runs (o := ⟨dst, .load t x, type, pos, after, guard⟩) ?_ hK
      have h1 := step_runs_load (nm := nm) (wd := wd) hT st (b := b) (off := off) ht hs hp (fun _ => hc)
      rw [← hv] at h1
      exact h1
    · cases hs
  case store t x y =>
    have hx := E x
    split at hs
    · rename_i d0 tsz z0 eq0 by0 k i j sym z ht hxe hye
      rw [hxe] at hx
      split at hs
      · rename_i et en es v ef n g he hc
        cases hb0 : Nat.beq n tsz with
        | false => rw [hb0] at hs; cases hs
        | true =>
          rw [hb0, cond_true] at hs
          have e1 : n = tsz := Nat.eq_of_beq_eq_true hb0
          injection hs with hs
          subst hs
          obtain ⟨p1, p2⟩ := both_ok.1 hp
          have q1 : i + 1 ≤ en := fits_ok p1
          exact (fun h => wp_of_runs h hK) (step_runs_store hT st ht hx he (fv_e (E y) hye) hc e1 (show i < en by omega) (fits_ok p2) _)
      · cases hs
    · cases hs
  case nilCheck x =>
    have hx := E x
    split at hs
    · rename_i k i j s hxe
      rw [hxe] at hx
      injection hs with hs
      subst hs
      have hx' := hx
      obtain ⟨b, hb, hv⟩ := hx
      exact (fun h => wp_of_runs h hK) ⟨a.eval x, w, .inl (by simp [execOp, hv]), left_still st rfl hx'⟩
    · rename_i sh m g hxe
      rw [hxe] at hx
      injection hs with hs
      subst hs
      have hx' := hx
      obtain ⟨ad, hv, _⟩ := hx
      exact (fun h => wp_of_runs h hK) ⟨a.eval x, w, .inl (by simp [execOp, hv]), left_still st rfl hx'⟩
    · rename_i f n m c hxe
      rw [hxe] at hx
      injection hs with hs
      subst hs
      have hx' := hx
      obtain ⟨fs, cs, hv, _⟩ := hx
      exact (fun h => wp_of_runs h hK) ⟨a.eval x, w, .inl (by simp [execOp, hv]), left_still st rfl hx'⟩
    · cases hs
  case binOp op t x y ty =>
    split at hs
    · rename_i p v hb
      rw [CV.see_eq] at hs
      injection hs with hs
      subst hs
      obtain ⟨z, h1, h2⟩ := bin_ok (P := P) hT hb hp (E x) (E y) x y
      exact (fun h => wp_of_runs h hK) (runs_val st h1 rfl h2)
    · cases hs
  case unOp op t x =>
    have hx := E x
    split at hs
    · rename_i b hxe
      rw [hxe] at hx
      have hv : a.eval x = .bool b := hx
      injection hs with hs
      subst hs
      exact (fun h => wp_of_runs h hK) (runs_val st (s := Op.unary .not (a.eval x)) (v := .bool (!b)) (by rw [hv]; rfl) rfl rfl)
    · rename_i k n hxe
      rw [hxe] at hx
      have hv : a.eval x = .int k n := hx
      injection hs with hs
      subst hs
      exact (fun h => wp_of_runs h hK) (runs_val st (s := Op.unary .neg (a.eval x)) (v := .int k (k.wrap (0 - n))) (by rw [hv]; rfl) rfl rfl)
    · rename_i k n hxe
      rw [hxe] at hx
      have hv : a.eval x = .int k n := hx
      injection hs with hs
      subst hs
      exact (fun h => wp_of_runs h hK) (runs_val st (s := Op.unary .xor (a.eval x)) (v := .int k (bits .xor k (if k.signed then -1 else k.max) n)) (by rw [hv]; rfl) rfl rfl)
    · cases hs
  case convert src dst' x =>
    have hx := E x
    split at hs
    · rename_i tis k sz z eq0 by0 kk n hsrc hdst hxe
      rw [hxe] at hx
      have hv : a.eval x = .int _ _ := hx
      injection hs with hs
      subst hs
      obtain ⟨d, hd, _⟩ := (hT _ _ hsrc).under
      obtain ⟨d', hd', htd⟩ := (hT _ _ hdst).under
      have := td_int htd
      subst this
      exact (fun h => wp_of_runs h hK) (runs_val st (s := convert src dst' (a.eval x)) (by rw [hv]; simp [convert, run_underlying hd, run_underlying hd', Conv.intToInt]) rfl rfl)
    · cases hs
  case fieldAddr t x i =>
    have hx := E x
    split at hs
    · rename_i fs sz z eq0 by0 k i1 j1 sym ht hxe
      rw [hxe] at hx
      obtain ⟨d, hd, htd⟩ := (hT _ _ ht).under
      obtain ⟨fa, rfl, hfa⟩ := td_struct htd
      obtain ⟨b, hb, hv⟩ := hx
      split at hs
      · rename_i o s bb hi
        obtain ⟨f, hf1, hf2, hf3, _⟩ := fs_at hfa hi
        cases hb0 : Nat.blt 0 s with
        | false => rw [hb0] at hs; cases hs
        | true =>
          rw [hb0, cond_true] at hs
          injection hs with hs
          subst hs
          refine (fun h => wp_of_runs h hK) (runs_val st (s := Instr.fieldAt t (a.eval x) i) (by rw [hv]; exact run_fieldAt hd hf1 hf3 (blt_pos hb0) b.b (i1 * b.sz + j1)) rfl ?_)
          exact ⟨b, hb, by rw [hf2, Nat.add_assoc]⟩
      · cases hs
    · rename_i fs sz z eq0 by0 sh m g ht hxe
      rw [hxe] at hx
      obtain ⟨d, hd, htd⟩ := (hT _ _ ht).under
      obtain ⟨fa, rfl, hfa⟩ := td_struct htd
      obtain ⟨b, off, hv, ho, hX, hlt, hc⟩ := rp_addr hx
      split at hs
      · rename_i o s bb hi
        obtain ⟨f, hf1, hf2, hf3, _⟩ := fs_at hfa hi
        cases hb0 : Nat.blt 0 s with
        | false => rw [hb0] at hs; cases hs
        | true =>
          rw [hb0, cond_true] at hs
          injection hs with hs
          subst hs
          refine (fun h => wp_of_runs h hK) (runs_val st (s := Instr.fieldAt t (a.eval x) i) (by rw [hv]; exact run_fieldAt hd hf1 hf3 (blt_pos hb0) b off) rfl ?_)
          refine rp_mk ho hX hlt fun j hj => ?_
          rw [hf2, Nat.add_assoc]
          exact hc (o + j) (by omega)
      · cases hs
    · cases hs
  case field t x i =>
    have hx := E x
    split at hs
    · rename_i fs sz z eq0 by0 n g ht hxe
      rw [hxe] at hx
      obtain ⟨cs, hv, hn, hg⟩ := hx
      obtain ⟨d, hd, htd⟩ := (hT _ _ ht).under
      obtain ⟨fa, rfl, hfa⟩ := td_struct htd
      split at hs
      · rename_i o s hi
        obtain ⟨f, hf1, hf2, hf3, hf4⟩ := fs_at hfa hi
        obtain ⟨df, hdf, haf⟩ := under_agg hf4
        cases hb0 : (Nat.blt 0 s && Nat.ble (o + s) n) with
        | false => rw [hb0] at hs; cases hs
        | true =>
          rw [hb0, cond_true] at hs
          simp only [Bool.and_eq_true] at hb0
          injection hs with hs
          subst hs
          obtain ⟨j, hj, hjs⟩ := szN_info hf3 (blt_pos hb0.1)
          refine (fun h => wp_of_runs h hK) (runs_val st (s := Instr.field t (a.eval x) i) (v := .agg (cs.extract o (o + s))) ?_ rfl (extract_rel hn (Nat.le_of_ble_eq_true hb0.2) hg))
          rw [hv]
          simp only [Instr.field, Sem.run_bind, run_underlying hd, Result.andThen_ok, hf1, asAgg, Sem.run_pure, run_partA hdf haf hj, hf2, hjs]
      · rename_i o s hi
        obtain ⟨f, hf1, hf2, hf3, hf4⟩ := fs_at hfa hi
        obtain ⟨df, hdf, haf⟩ := under_agg hf4
        cases hb0 : Nat.blt o n with
        | false => rw [hb0] at hs; cases hs
        | true =>
          rw [hb0, cond_true, CV.see_eq] at hs
          injection hs with hs
          subst hs
          have hlt : o < cs.size := by rw [hn]; exact Nat.le_of_ble_eq_true hb0
          have hco : cs[o]? = some cs[o] := Array.getElem?_eq_getElem hlt
          refine (fun h => wp_of_runs h hK) (runs_val st (s := Instr.field t (a.eval x) i) (v := cs[o]) ?_ rfl (hg _ _ hco))
          rw [hv]
          simp only [Instr.field, Sem.run_bind, run_underlying hd, Result.andThen_ok, hf1, asAgg, Sem.run_pure, hf2, run_partC hdf haf cs o hco]
      · cases hs
    · cases hs
  case indexAddr t x ix =>
    have hx := E x
    have hix := E ix
    split at hs
    · rename_i e es eb sz0 z eq0 by0 sh n sz f k i ht hxe hie
      rw [hxe] at hx
      rw [hie] at hix
      have hiv : a.eval ix = .int _ i := hix
      cases hb0 : (Nat.blt 0 es && Nat.beq sz es) with
      | false => rw [hb0] at hs; cases hs
      | true =>
        rw [hb0, cond_true] at hs
        simp only [Bool.and_eq_true] at hb0
        have e0 := blt_pos hb0.1
        have e1 : sz = es := Nat.eq_of_beq_eq_true hb0.2
        injection hs with hs
        subst hs
        obtain ⟨ad0, cap, hv, hnc, hc⟩ := hx
        obtain ⟨d, hd, htd⟩ := (hT _ _ ht).under
        obtain ⟨rfl, hes, hinf⟩ := td_slice htd
        obtain ⟨j, hj, hjs⟩ := szN_info hes e0
        have hp' : 0 ≤ i ∧ i < (n : Int) := hp
        obtain ⟨ad, rfl, hsp, ho, hX, hlt, hcell⟩ := hc (by omega)
        refine (fun h => wp_of_runs h hK) (runs_val st (s := Instr.indexAt t (a.eval x) (a.eval ix)) (v := .pointer (some ⟨ad.block, ad.off + i.toNat * es, none⟩)) ?_ rfl ?_)
        · rw [hv, hiv]
          simp only [Instr.indexAt, asIntOf, Sem.run_bind, Sem.run_pure, run_underlying hd, Result.andThen_ok, hp', and_self, if_true, run_size hj, hjs, addS hsp]
        · refine rp_mk ho hX hlt fun q hq => ?_
          obtain ⟨u, hu, hru⟩ := hcell i.toNat (by omega) q hq
          exact ⟨u, by rw [Nat.add_assoc, ← e1]; exact hu, hru⟩
    · rename_i e es eb sz0 z eq0 by0 k b n kk i ht hxe hie
      rw [hxe] at hx
      rw [hie] at hix
      have hiv : a.eval ix = .int _ i := hix
      split at hs
      · rename_i et en esz ev0 ef he
        cases hb0 : (Nat.blt 0 es && Nat.beq esz es) with
        | false => rw [hb0] at hs; cases hs
        | true =>
          rw [hb0, cond_true] at hs
          simp only [Bool.and_eq_true] at hb0
          have e0 := blt_pos hb0.1
          have e1 : esz = es := Nat.eq_of_beq_eq_true hb0.2
          injection hs with hs
          subst hs
          obtain ⟨ad0, cap, hv, hnc, hc⟩ := hx
          obtain ⟨d, hd, htd⟩ := (hT _ _ ht).under
          obtain ⟨rfl, hes, hinf⟩ := td_slice htd
          obtain ⟨j, hj, hjs⟩ := szN_info hes e0
          have hp' : 0 ≤ i ∧ i < (n : Int) := hp
          obtain ⟨bi, hb1, rfl, _⟩ := hc (by omega)
          obtain ⟨_, _, hxs, _⟩ := blk_at st he hb1
          simp only at hxs
          refine (fun h => wp_of_runs h hK) (runs_val st (s := Instr.indexAt t (a.eval x) (a.eval ix)) (v := .pointer (some ⟨bi.b, b * bi.sz + i.toNat * es, none⟩)) ?_ rfl ⟨bi, hb1, ?_⟩)
          · rw [hv, hiv]
            simp only [Instr.indexAt, asIntOf, Sem.run_bind, Sem.run_pure, run_underlying hd, Result.andThen_ok, hp', and_self, if_true, run_size hj, hjs, addN]
          · rw [hxs, e1, Nat.add_mul, Nat.add_zero]
      · cases hs
    · rename_i e es eb sz0 z eq0 by0 k b j n s kk i ht hxe hie
      rw [hxe] at hx
      rw [hie] at hix
      have hiv : a.eval ix = .int _ i := hix
      cases hb0 : (Nat.blt 0 es && Nat.beq s es) with
      | false => rw [hb0] at hs; cases hs
      | true =>
        rw [hb0, cond_true] at hs
        simp only [Bool.and_eq_true] at hb0
        have e0 := blt_pos hb0.1
        have e1 : s = es := Nat.eq_of_beq_eq_true hb0.2
        injection hs with hs
        subst hs
        obtain ⟨ad0, cap, hv, hnc, hc⟩ := hx
        obtain ⟨d, hd, htd⟩ := (hT _ _ ht).under
        obtain ⟨rfl, hes, hinf⟩ := td_slice htd
        obtain ⟨q, hj, hjs⟩ := szN_info hes e0
        have hp' : 0 ≤ i ∧ i < (n : Int) := hp
        obtain ⟨bi, hb1, rfl⟩ := hc (by omega)
        refine (fun h => wp_of_runs h hK) (runs_val st (s := Instr.indexAt t (a.eval x) (a.eval ix)) (v := .pointer (some ⟨bi.b, b * bi.sz + j + i.toNat * es, none⟩)) ?_ rfl ⟨bi, hb1, ?_⟩)
        · rw [hv, hiv]
          simp only [Instr.indexAt, asIntOf, Sem.run_bind, Sem.run_pure, run_underlying hd, Result.andThen_ok, hp', and_self, if_true, run_size hj, hjs, addN]
        · rw [e1, Nat.add_assoc]
    · rename_i n e es b sz0 z eq0 by0 k i1 j1 sym kk i ht hxe hie
      rw [hxe] at hx
      rw [hie] at hix
      have hiv : a.eval ix = .int _ i := hix
      cases hb0 : Nat.blt 0 es with
      | false => rw [hb0] at hs; cases hs
      | true =>
        rw [hb0, cond_true] at hs
        have e0 := blt_pos hb0
        injection hs with hs
        subst hs
        obtain ⟨b, hb, hv⟩ := hx
        obtain ⟨d, hd, htd⟩ := (hT _ _ ht).under
        obtain ⟨rfl, hes, _⟩ := td_arr htd
        obtain ⟨j, hj, hjs⟩ := szN_info hes e0
        have hp' : 0 ≤ i ∧ i < (n : Int) := hp
        refine (fun h => wp_of_runs h hK) (runs_val st (s := Instr.indexAt t (a.eval x) (a.eval ix)) (v := .pointer (some ⟨b.b, i1 * b.sz + j1 + i.toNat * es, none⟩)) ?_ rfl ⟨b, hb, by rw [Nat.add_assoc]⟩)
        rw [hv, hiv]
        simp only [Instr.indexAt, asIntOf, Instr.sureAddr, Sem.run_bind, Sem.run_pure, run_underlying hd, Result.andThen_ok, hp', and_self, if_true, run_size hj, hjs, addN]
    · rename_i n e es b sz0 z eq0 by0 sh m g kk i ht hxe hie
      rw [hxe] at hx
      rw [hie] at hix
      have hiv : a.eval ix = .int _ i := hix
      cases hb0 : Nat.blt 0 es with
      | false => rw [hb0] at hs; cases hs
      | true =>
        rw [hb0, cond_true] at hs
        have e0 := blt_pos hb0
        injection hs with hs
        subst hs
        obtain ⟨b, off, hv, ho, hX, hlt, hc⟩ := rp_addr hx
        obtain ⟨d, hd, htd⟩ := (hT _ _ ht).under
        obtain ⟨rfl, hes, _⟩ := td_arr htd
        obtain ⟨j, hj, hjs⟩ := szN_info hes e0
        have hp' : 0 ≤ i ∧ i < (n : Int) := hp
        refine (fun h => wp_of_runs h hK) (runs_val st (s := Instr.indexAt t (a.eval x) (a.eval ix)) (v := .pointer (some ⟨b, off + i.toNat * es, none⟩)) ?_ rfl ?_)
        · rw [hv, hiv]
          simp only [Instr.indexAt, asIntOf, Instr.sureAddr, Sem.run_bind, Sem.run_pure, run_underlying hd, Result.andThen_ok, hp', and_self, if_true, run_size hj, hjs, addN]
        · refine rp_mk ho hX hlt fun q hq => ?_
          rw [Nat.add_assoc]
          exact hc _ (by omega)
    · cases hs
  case index t x ix =>
    have hx := E x
    have hix := E ix
    split at hs
    · rename_i n e es sz0 z eq0 by0 m g kk i ht hxe hie
      rw [hxe] at hx
      rw [hie] at hix
      have hiv : a.eval ix = .int _ i := hix
      cases hb0 : (Nat.blt 0 es && Nat.ble (n * es) m) with
      | false => rw [hb0] at hs; cases hs
      | true =>
        rw [hb0, cond_true] at hs
        simp only [Bool.and_eq_true] at hb0
        have e0 := blt_pos hb0.1
        have em := Nat.le_of_ble_eq_true hb0.2
        injection hs with hs
        subst hs
        obtain ⟨cs, hv, hn, hg⟩ := hx
        obtain ⟨d, hd, htd⟩ := (hT _ _ ht).under
        obtain ⟨rfl, hes, hea⟩ := td_arr htd
        obtain ⟨de, hde, hae⟩ := under_agg hea
        obtain ⟨j, hj, hjs⟩ := szN_info hes e0
        have hp2 : 0 ≤ i ∧ i < (n : Int) := hp
        have hle : i.toNat * es + es ≤ m := by have := row_lt (sz := es) (show i.toNat < n by omega); omega
        refine (fun h => wp_of_runs h hK) (runs_val st (s := Instr.index t (a.eval x) (a.eval ix)) (v := .agg (cs.extract (i.toNat * es) (i.toNat * es + es))) ?_ rfl (extract_rel hn hle hg))
        rw [hv, hiv]
        simp only [Instr.index, asIntOf, Sem.run_bind, Sem.run_pure, run_underlying hd, Result.andThen_ok, hp2, and_self, if_true, run_size hj, hjs, run_partA hde hae hj]
    · rename_i n e es sz0 z eq0 by0 m g kk i ht hxe hie
      rw [hxe] at hx
      rw [hie] at hix
      have hiv : a.eval ix = .int _ i := hix
      cases hb0 : (Nat.blt 0 es && Nat.ble (n * es) m) with
      | false => rw [hb0] at hs; cases hs
      | true =>
        rw [hb0, cond_true, CV.see_eq] at hs
        simp only [Bool.and_eq_true] at hb0
        have e0 := blt_pos hb0.1
        have em := Nat.le_of_ble_eq_true hb0.2
        injection hs with hs
        subst hs
        obtain ⟨cs, hv, hn, hg⟩ := hx
        obtain ⟨d, hd, htd⟩ := (hT _ _ ht).under
        obtain ⟨rfl, hes, hea⟩ := td_arr htd
        obtain ⟨de, hde, hae⟩ := under_agg hea
        obtain ⟨j, hj, hjs⟩ := szN_info hes e0
        have hp2 : 0 ≤ i ∧ i < (n : Int) := hp
        have hlt : i.toNat * es < cs.size := by have := row_lt (sz := es) (show i.toNat < n by omega); omega
        have hco : cs[i.toNat * es]? = some (cs[i.toNat * es]'hlt) := Array.getElem?_eq_getElem hlt
        refine (fun h => wp_of_runs h hK) (runs_val st (s := Instr.index t (a.eval x) (a.eval ix)) (v := cs[i.toNat * es]'hlt) ?_ rfl (hg _ _ hco))
        rw [hv, hiv]
        simp only [Instr.index, asIntOf, Sem.run_bind, Sem.run_pure, run_underlying hd, Result.andThen_ok, hp2, and_self, if_true, run_size hj, hjs, run_partC hde hae cs _ hco]
    · cases hs
  case extract x i =>
    have hx := E x
    split at hs
    · rename_i l hxe
      rw [hxe] at hx
      obtain ⟨vs, hv, hn, hg⟩ := hx
      split at hs
      · rename_i y hy
        rw [EV.see_eq] at hs
        injection hs with hs
        subst hs
        have hlt : i < vs.size := by rw [hn]; exact (List.getElem?_eq_some_iff.1 hy).1
        have hco : vs[i]? = some vs[i] := Array.getElem?_eq_getElem hlt
        refine (fun h => wp_of_runs h hK) (runs_val st (s := Instr.extract (a.eval x) i) (v := vs[i]) ?_ rfl (hg i y _ hy hco))
        rw [hv]
        simp only [Instr.extract, hco, Sem.run_pure]
      · cases hs
    · cases hs
  case slice t x lo hi mx =>
    cases mx with
    | some m => simp only [reduceCtorEq] at hs
    | none =>
    simp only at hs
    obtain ⟨v, h1, h2, h3⟩ := slice_ok (P := P) hT st E hs hp
    exact (fun h => wp_of_runs h hK) (runs_val st h1 h2 h3)
  case call c =>
    obtain ⟨callee, args, ts⟩ := c
    cases callee with
    | builtin b =>
      simp only at hs
      refine wp_of_runs ?_ hK
      have h1 := fun cs => callB_ok (nm := nm) (wd := wd) (type := type) (cs := cs) hT st hfr hwd hs hp (relL_of (xs := args) hf)
      simp only [execOp, resolve, invoke, pure_bind]
      exact h1 _
    | invoke x m => cases hs
    | value f => cases hs

/-- What an operation comes to: by the abstract step, or by what is right of the call. -/
def Stp (P : Program) (T : Tys) (o : Op) (fr : Fr) (H : Hp) (nm wd : Nat) (sr : SR) : Prop :=
  (stepF T o fr H nm = some sr ∧ preOk sr.pre) ∨ ∃ f args, callOf o fr = some (f, args) ∧ CallR P f args H nm wd sr

theorem stp_ok (hT : TysOk P T) {o : Oper} {sr : SR} (hs : Stp P T o.op fr H nm wd sr) (st : St cx r H w) (hf : FrOk cx r H w fr a.tmps) (hfr : Free r H nm wd) (hall : ALLN ∈ sr.rd → ∀ k, nm ≤ k → r k = none ∧ hget H k = none) (hwd : 0 < wd)
    {K : Act → World → Prop} {Q : Exit → Act → World → Prop} (hK : ∀ v w', Left cx r H w nm wd sr v w' → K (a.put o.dst v) w') : o.wp P a w K Q := by
  rcases hs with ⟨h1, h2⟩ | ⟨f1, args1, hc, hr⟩
  · exact step_ok hT h1 h2 st hf hfr hwd hK
  · obtain ⟨dst, op, type, pos, after, guard⟩ := o
    unfold callOf at hc
    simp only at hc
    split at hc
    · rename_i f args ts
      split at hc
      · rename_i f2 n m c hfe
        injection hc with hc
        injection hc with hc1 hc2
        subst hc1 hc2
        have hfv := ev_ok hf f
        rw [hfe] at hfv
        obtain ⟨fs, cs, hv, h1, h2, h3, h4⟩ := hfv
        obtain ⟨⟨fn, g1, g2, g3⟩, g4⟩ := hr
        have g4 := g4 H (fun _ _ => rfl) cx r w (fs ++ args.map a.eval ++ cs) st hfr (fun h => ⟨fun _ => rfl, hall h⟩) (fn_vals (relL_of hf) h1 h2 h3 h4)
        unfold Oper.wp
        have hrun : (execOp a.eval ⟨dst, .call ⟨.value f, args, ts⟩, type, pos, after, guard⟩).run P w = .ok (.enter f2 (fs ++ args.map a.eval ++ cs)) w := by
          have g2' : fn.body.isNone = false := by cases hb : fn.body with | none => rw [hb] at g2; cases g2 | some c => rfl
          have g3' : ¬ fn.name = "runtime.NumGoroutine" := by simpa using g3
          simp [execOp, resolve, hv, Deferred.ofValue, invoke, callFunc, g1, g3']
          intro hb; rw [hb] at g2; cases g2
        rw [hrun, Oper.upon_enter]
        refine g4.mono fun e w' he => ?_
        obtain ⟨v, rfl, hl⟩ := he
        exact hK v w' hl
      · cases hc
    · cases hc
end
end Go.Proofs.Ytjknkfjhcapocaa.AX
