/- Texts of one's own in one file: BOk, BSel, BReg, BAny, BLit, BExec, BLib, BLoop, BDet, BFn, BMeth, BCod. -/
import Derived.Test.YtfaibcgakcmhcaaJMulticastAcceptsa
import Derived.LoopN
set_option linter.unusedVariables false
set_option linter.unusedSimpArgs false
set_option maxHeartbeats 16000000
set_option maxRecDepth 20000
namespace Go.Proofs.Ytfaibcgakcmhcaa.AX
open Go.RowKit
section
variable {P : Program} {cx : Cx} {r : Ren} {H : Hp} {w : World} {T : Tys} {fr : Fr} {a : Act} {nm wd : Nat}
theorem wp_of_runs {o : Oper} {sr : SR} {K : Act -> World -> Prop} {Q : Exit -> Act -> World -> Prop} (h : Runs P cx r H w nm wd sr (execOp a.eval o))
 (hK : ∀ v w', Left cx r H w nm wd sr v w' -> K (a.put o.dst v) w') : o.wp P a w K Q := by
 obtain ⟨v, w', hv, hl⟩ := h
 unfold Oper.wp
 rcases hv with hv | ⟨hv, rfl⟩
 . rw [hv]; exact hK v w' hl
 . rw [hv]; exact hK undef w' hl
theorem see_some {x : FV} {sr : SR} (h : (x.see fun v => some (⟨none, v, [], []⟩ : SR)) = some sr) : sr = ⟨none, x, [], []⟩ := by
 rw [FV.see_eq] at h
 injection h with h
 exact h.symm
theorem two_vals {vals : Array Value} {x y : FV} {X W : Nat -> Prop} (hl : RelL r X W w [x, y] vals) : ∃ v u, vals = #[v, u] /\ x.rel r X W w v /\ y.rel r X W w u := by
 obtain ⟨l⟩ := vals
 match l, hl.1 with
 | [v, u], _ => exact ⟨v, u, rfl, hl.2 0 _ _ rfl rfl, hl.2 1 _ _ rfl rfl⟩
theorem one_val {vals : Array Value} {x : FV} {X W : Nat -> Prop} (hl : RelL r X W w [x] vals) : ∃ v, vals = #[v] /\ x.rel r X W w v := by
 obtain ⟨l⟩ := vals
 match l, hl.1 with
 | [v], _ => exact ⟨v, rfl, hl.2 0 _ _ rfl rfl⟩
theorem runs_of {s : Sem Value} {sr : SR} (h : ∃ v w', s.run P w = .ok v w' /\ Left cx r H w nm wd sr v w') : Runs P cx r H w nm wd sr (do pure (.value (<- s))) := by
 obtain ⟨v, w', h1, h2⟩ := h
 exact ⟨v, w', .inl (by simp [h1]), h2⟩
theorem callB_ok (hT : TysOk P T) (st : St cx r H w) (hfr : Free r H nm wd) (hwd : 0 < wd) {b : Builtin} {ts : Array TypeId} {args : List FV} {vals : Array Value} {sr : SR} {type : TypeId} {cs : Array Bool} (h : callB T b ts args H nm = some sr) (hp : preOk sr.pre) (hl : RelL r cx.X (wr r H) w args vals) :
 Runs P cx r H w nm wd sr (builtin b ts type cs vals) := by
 unfold callB at h
 split at h
 ·
  rename_i x
  split at h
  . rename_i t ht
    split at h
    . rename_i hTt
      obtain ⟨d, hd, htd⟩ := (hT t _ hTt).under
      obtain ⟨rfl, _, _⟩ := td_slice htd
      obtain ⟨v, rfl, hv⟩ := one_val hl
      split at h
      . rename_i n _ _
        injection h with h; subst h
        obtain ⟨ad, cap, rfl, _⟩ := hv
        exact runs_val st (v := .int .i64 n) (by simp [Builtin.len_, ht, run_underlying hd, goInt]) rfl rfl
      . rename_i n
        injection h with h; subst h
        obtain ⟨ad, cap, rfl, _⟩ := hv
        exact runs_val st (v := .int .i64 n) (by simp [Builtin.len_, ht, run_underlying hd, goInt]) rfl rfl
      . rename_i n _
        injection h with h; subst h
        obtain ⟨ad, cap, rfl, _⟩ := hv
        exact runs_val st (v := .int .i64 n) (by simp [Builtin.len_, ht, run_underlying hd, goInt]) rfl rfl
      . injection h with h; subst h
        have : v = .slice none 0 0 := hv
        subst this
        exact runs_val st (v := .int .i64 0) (by simp [Builtin.len_, ht, run_underlying hd, goInt]) rfl rfl
      . cases h
    . cases h
  . cases h
 . rename_i k x k' y
   injection h with h
   subst h
   obtain ⟨v, u, rfl, e1, e2⟩ := two_vals hl
   have e1 : v = .int k x := e1
   have e2 : u = .int k' y := e2
   subst e1 e2
   exact runs_val st (v := .int k (if y < x then y else x)) (by simp [Builtin.min_, Builtin.min2]) rfl rfl
 . rename_i k x k' y
   injection h with h
   subst h
   obtain ⟨v, u, rfl, e1, e2⟩ := two_vals hl
   have e1 : v = .int k x := e1
   have e2 : u = .int k' y := e2
   subst e1 e2
   exact runs_val st (v := .int k (if x < y then y else x)) (by simp [Builtin.max_, Builtin.max2]) rfl rfl
 ·
  rename_i x y
  split at h
  . rename_i t t' hts
    cases hbt : Nat.beq t t' with
    | false =>
      rw [hbt, cond_false] at h
      have hts' : ts = #[t, t'] := Array.ext' (by simpa using hts)
      subst hts'
      obtain ⟨vx, vy, rfl, hx, hy⟩ := two_vals hl
      exact runs_of (s := Builtin.append_ #[t, t'] type #[vx, vy]) (appZ_ok hT st hfr hwd h hp hx hy)
    | true =>
      rw [hbt, cond_true] at h
      have := Nat.eq_of_beq_eq_true hbt
      subst this
      have hts' : ts = #[t, t] := Array.ext' (by simpa using hts)
      subst hts'
      obtain ⟨vx, vy, rfl, hx, hy⟩ := two_vals hl
      split at h
      . rename_i e es s0 z0 eq0 by0 hTt
        obtain ⟨d, hd, htd⟩ := (hT t _ hTt).under
        obtain ⟨rfl, hes, hinf⟩ := td_slice htd
        split at h
        . rename_i d1 s1 z eq1 bytes m g p rd hTe hsrc
          cases hb0 : Nat.blt 0 es with
          | false => rw [hb0] at hsrc; cases hsrc
          | true =>
            rw [hb0, cond_true] at hsrc
            have e0 := blt_pos hb0
            cases hbz : Nat.beq z.length es with
            | false => rw [hbz] at h; cases h
            | true =>
              rw [hbz, cond_true] at h
              have ez : z.length = es := Nat.eq_of_beq_eq_true hbz
              split at h
              . injection h with h; subst h
                obtain ⟨hp1, hp2⟩ := both_ok.1 hp
                obtain ⟨news, hlies⟩ := src_lies st (by omega) hsrc hp1 hy
                have : vx = .slice none 0 0 := hx
                subst this
                have hp3 : m * bytes <= 140737488355328 /\ m <= 9223372036854775807 := hp2
                exact runs_of (s := Builtin.append_ #[t, t] type #[.slice none 0 0, vy]) (step_append_nil hT st hfr hwd hd hTe (by omega) hes ez hlies hp3.1 hp3.2 _ _)
              . rename_i k i n
                split at h
                . rename_i et en esz f he
                  cases hbc : (Nat.beq i 0 && Nat.beq esz es && Nat.beq et e) with
                  | false => rw [hbc] at h; cases h
                  | true =>
                    rw [hbc, cond_true] at h
                    simp only [Bool.and_eq_true] at hbc
                    have c1 : i = 0 := Nat.eq_of_beq_eq_true hbc.1.1
                    have c2 : esz = es := Nat.eq_of_beq_eq_true hbc.1.2
                    have c3 : et = e := Nat.eq_of_beq_eq_true hbc.2
                    subst c1 c2 c3
                    injection h with h; subst h
                    obtain ⟨hp1, hp2⟩ := both_ok.1 hp
                    obtain ⟨news, hlies⟩ := src_lies st (by omega) hsrc hp1 hy
                    have hp3 : n = en /\ (n + m) * bytes <= 140737488355328 /\ n + m <= 9223372036854775807 := hp2
                    obtain ⟨rfl, hp4, hp5⟩ := hp3
                    exact runs_of (s := Builtin.append_ #[t, t] type #[vx, vy]) (step_append_own hT st hfr hwd hd hTe (by omega) hes ez he hx hlies hp4 hp5 _ _)
                . cases h
              . cases h
        . cases h
      . cases h
  . cases h
 ·
  rename_i x y
  split at h
  . rename_i t ht
    obtain ⟨vx, vy, rfl, hx, hy⟩ := two_vals hl
    split at h
    . rename_i e es s0 z0 eq0 by0 hTt
      obtain ⟨d, hd, htd⟩ := (hT t _ hTt).under
      obtain ⟨rfl, hes, hinf⟩ := td_slice htd
      split at h
      . rename_i m g p rd hsrc
        cases hb0 : Nat.blt 0 es with
        | false => rw [hb0] at hsrc; cases hsrc
        | true =>
          rw [hb0, cond_true] at hsrc
          have e0 := blt_pos hb0
          obtain ⟨je, hje, hjes⟩ := szN_info hes e0
          split at h
          . rename_i k i n
            split at h
            . rename_i et en esz f he
              cases hbc : Nat.beq esz es with
              | false => rw [hbc] at h; cases h
              | true =>
                rw [hbc, cond_true] at h
                have c2 : esz = es := Nat.eq_of_beq_eq_true hbc
                injection h with h; subst h
                obtain ⟨hp1, hp2⟩ := both_ok.1 hp
                obtain ⟨news, hlies⟩ := src_lies st (by omega) hsrc hp1 hy
                exact runs_of (s := Builtin.copy_ ts type #[vx, vy]) (step_copy_os ht hd hje st he (c2.trans hjes.symm) hx hp2 (by rw [hjes]; exact hlies) _ _)
            . cases h
          . rename_i k i j n s
            split at h
            . rename_i et en esz v f he
              cases hbc : Nat.beq s es with
              | false => rw [hbc] at h; cases h
              | true =>
                rw [hbc, cond_true] at h
                have c2 : s = es := Nat.eq_of_beq_eq_true hbc
                injection h with h; subst h
                obtain ⟨hp1, hp2⟩ := both_ok.1 hp
                obtain ⟨news, hlies⟩ := src_lies st (by omega) hsrc hp1 hy
                have hp3 : i < en /\ j + n * s <= esz := hp2
                exact runs_of (s := Builtin.copy_ ts type #[vx, vy]) (step_copy_oa ht hd hje (by omega) st he (c2.trans hjes.symm) hx hp3.1 hp3.2 (by rw [hjes]; exact hlies) _ _)
            . cases h
          . cases h
      . cases h
    . cases h
  . cases h
 . cases h
theorem fn_vals {n m : Nat} {c : Nat -> CV} {args : List FV} {vals fs cs : Array Value} {X W : Nat -> Prop} (hl : RelL r X W w args vals) (h1 : fs.size = n) (h2 : cs.size = m) (h3 : ∀ k u, fs[k]? = some u -> (c k).rel r X W w u) (h4 : ∀ k u, cs[k]? = some u -> (c (n + k)).rel r X W w u) :
 RelL r X W w (fnArgs n m c args) (fs ++ vals ++ cs) := by
 have hlen : ((List.range n).map (fun k => one (c k)) ++ args).length = n + args.length := by simp
 refine ⟨by simp [fnArgs, h1, h2, hl.1], fun i x u hx hu => ?_⟩
 unfold fnArgs at hx
 rcases Nat.lt_or_ge i n with hi | hi
 . rw [List.append_assoc, List.getElem?_append_left (by simpa using hi)] at hx
   rw [Array.append_assoc, Array.getElem?_append_left (by omega)] at hu
   simp only [List.getElem?_map, List.getElem?_range, hi, if_true, Option.map_some, Option.some.injEq] at hx
   subst hx
   exact h3 i u hu
 . rcases Nat.lt_or_ge i (n + args.length) with hj | hj
   . rw [List.getElem?_append_left (by rw [hlen]; exact hj), List.getElem?_append_right (by simpa using hi)] at hx
     have e1 : (fs ++ vals).size = n + args.length := by simp [h1, hl.1]
     rw [Array.getElem?_append_left (by omega), Array.getElem?_append_right (by omega), h1] at hu
     simp only [List.length_map, List.length_range] at hx
     exact hl.2 (i - n) x u hx hu
   . rw [List.getElem?_append_right (by rw [hlen]; exact hj), hlen] at hx
     have e1 : (fs ++ vals).size = n + args.length := by simp [h1, hl.1]
     rw [Array.getElem?_append_right (by omega), e1] at hu
     have hk : i - (n + args.length) < m := by have := (Array.getElem?_eq_some_iff.1 hu).1; omega
     simp only [List.getElem?_map, List.getElem?_range, hk, if_true, Option.map_some, Option.some.injEq] at hx
     subst hx
     exact h4 _ u hu
theorem mapM_cells {X W : Nat -> Prop} : ∀ (xs : List Operand) (l : List CV), (xs.map (ev fr)).mapM (fun | .e (.c x) => some x | _ => none : FV -> Option CV) = some l -> (∀ x, (ev fr x).rel r X W w (a.eval x)) -> l.length = xs.length /\ ∀ (k : Nat) u, (xs.map a.eval)[k]? = some u -> (nth l k).rel r X W w u := by
 intro xs
 induction xs with
 | nil =>
   intro l h _
   simp only [List.map_nil, List.mapM_nil, Option.pure_def, Option.some.injEq] at h
   subst h
   exact ⟨rfl, fun k u hu => by simp at hu⟩
 | cons x xs ih =>
   intro l h hf
   simp only [List.map_cons, List.mapM_cons, Option.bind_eq_bind, Option.bind_eq_some_iff, Option.pure_def, Option.some.injEq] at h
   obtain ⟨y, hy, l', hl', rfl⟩ := h
   obtain ⟨h1, h2⟩ := ih l' hl' hf
   refine ⟨by simp [h1], fun k u hu => ?_⟩
   cases k with
   | zero =>
     simp only [List.map_cons, List.getElem?_cons_zero, Option.some.injEq] at hu
     subst hu
     have hx := hf x
     split at hy
     . rename_i z hz
       injection hy with hy; subst hy
       rw [hz] at hx
       exact hx
     . cases hy
   | succ k =>
     simp only [List.map_cons, List.getElem?_cons_succ] at hu
     exact h2 k u hu
theorem step_ok (hT : TysOk P T) {o : Oper} {sr : SR} (hs : stepF T o.op fr H nm = some sr) (hp : preOk sr.pre) (st : St cx r H w) (hf : FrOk cx r H w fr a.tmps) (hfr : Free r H nm wd) (hwd : 0 < wd)
 {K : Act -> World -> Prop} {Q : Exit -> Act -> World -> Prop} (hK : ∀ v w', Left cx r H w nm wd sr v w' -> K (a.put o.dst v) w') : o.wp P a w K Q := by
 obtain ⟨dst, op, type, pos, after, guard⟩ := o
 have E : ∀ x, (ev fr x).rel r cx.X (wr r H) w (a.eval x) := ev_ok st hf
 cases op <;> simp only [stepF, reduceCtorEq] at hs
 case move x =>
  have := see_some hs
  subst this
  exact (fun h => wp_of_runs h hK) (runs_val st (s := pure (a.eval x)) rfl rfl (E x))
 case assign x =>
  have := see_some hs
  subst this
  exact (fun h => wp_of_runs h hK) (runs_val st (s := pure (a.eval x)) rfl rfl (E x))
 case pick c x y =>
  have hc := E c
  split at hs
  . rename_i hcv
    rw [hcv] at hc
    have hc' : a.eval c = .bool true := hc
    have := see_some hs
    subst this
    refine (fun h => wp_of_runs h hK) ⟨a.eval x, w, .inl ?_, left_still st rfl (E x)⟩
    simp [execOp, hc', asBool]
  . rename_i hcv
    rw [hcv] at hc
    have hc' : a.eval c = .bool false := hc
    have := see_some hs
    subst this
    refine (fun h => wp_of_runs h hK) ⟨a.eval y, w, .inl ?_, left_still st rfl (E y)⟩
    simp [execOp, hc', asBool]
  . cases hs
 case alloc t =>
  split at hs
  . rename_i d0 s0 z0 eq0 by0 ht
    cases hb : Nat.blt 0 z0.length with
    | false => rw [hb] at hs; cases hs
    | true =>
      rw [hb, cond_true] at hs
      injection hs with hs
      subst hs
      exact (fun h => wp_of_runs h hK) (step_runs_alloc hT st hfr hwd ht (Nat.le_of_ble_eq_true hb))
  . cases hs
 case box t x =>
  split at hs
  . rename_i y hy
    split at hs
    . rename_i n f hc
      cases hb : Nat.blt 0 n with
      | false => rw [hb] at hs; cases hs
      | true =>
        rw [hb, cond_true] at hs
        injection hs with hs
        subst hs
        exact (fun h => wp_of_runs h hK) (step_runs_box st hfr hwd (fv_e (E x) hy) hc (Nat.le_of_ble_eq_true hb))
    . cases hs
  . cases hs
 case buildSlice t len parts =>
  split at hs
  . rename_i e es s0 z0 eq0 by0 hTt
    obtain ⟨d, hd, htd⟩ := (hT t _ hTt).under
    obtain ⟨rfl, hes, hinf⟩ := td_slice htd
    split at hs
    . rename_i d1 s1 z eq1 by1 hTe
      cases hb : (Nat.blt 0 es && Nat.beq z.length es && Nat.ble (len * es) 16777216) with
      | false => rw [hb] at hs; cases hs
      | true =>
        rw [hb, cond_true] at hs
        simp only [Bool.and_eq_true] at hb
        have e0 := blt_pos hb.1.1
        have ez : z.length = es := Nat.eq_of_beq_eq_true hb.1.2
        have el := Nat.le_of_ble_eq_true hb.2
        split at hs
        . rename_i f hparts
          injection hs with hs
          subst hs
          exact (fun h => wp_of_runs h hK) (step_lit hT st hfr hwd hd hTe (by omega) hes ez el E hparts)
        . cases hs
    . cases hs
  . cases hs
 case makeSlice t l c =>
  have hl := E l
  have hc := E c
  split at hs
  . rename_i e es s0 z0 eq0 by0 kl vl kc vc hTt hle hce
    rw [hle] at hl
    rw [hce] at hc
    have hl' : a.eval l = .int kl vl := hl
    have hc' : a.eval c = .int kc vc := hc
    obtain ⟨d, hd, htd⟩ := (hT t _ hTt).under
    obtain ⟨rfl, hes, hinf⟩ := td_slice htd
    split at hs
    . rename_i d1 s1 z eq1 by1 hTe
      cases hb : (Nat.blt 0 es && Nat.beq z.length es) with
      | false => rw [hb] at hs; cases hs
      | true =>
        rw [hb, cond_true] at hs
        simp only [Bool.and_eq_true] at hb
        have e0 := blt_pos hb.1
        have ez : z.length = es := Nat.eq_of_beq_eq_true hb.2
        injection hs with hs
        subst hs
        have hp' : 0 <= vl /\ vl <= vc /\ (by1 : Int) * vc <= 281474976710656 /\ vc <= 9223372036854775807 := hp
        refine wp_of_runs (o := ⟨dst, .makeSlice t l c, type, pos, after, guard⟩) ?_ hK
        have h1 := step_make (P := P) (nm := nm) (wd := wd) hT st hfr hwd hd hTe (by omega) hes ez (kl := kl) (kc := kc) hp'.1 hp'.2.1 hp'.2.2.1 hp'.2.2.2 (some (0 <= vl /\ vl <= vc /\ (by1 : Int) * vc <= 281474976710656 /\ vc <= 9223372036854775807)) []
        rw [<- hl', <- hc'] at h1
        exact h1
    . cases hs
  . cases hs
 case makeFunc fn first captured =>
  cases fn with
  | func f =>
    simp only at hs
    split at hs
    . rename_i l l' h1 h2
      injection hs with hs
      subst hs
      obtain ⟨a1, a2⟩ := mapM_cells (a := a) (r := r) (w := w) (X := cx.X) (W := wr r H) first.toList l h1 E
      obtain ⟨b1, b2⟩ := mapM_cells (a := a) (r := r) (w := w) (X := cx.X) (W := wr r H) captured.toList l' h2 E
      refine (fun h => wp_of_runs h hK) (runs_val st (s := Instr.makeFunc (.func f) (first.map a.eval) (captured.map a.eval)) (v := .func (.func f) (first.map a.eval) (captured.map a.eval)) rfl rfl ?_)
      refine ⟨_, _, rfl, by simp [a1], by simp [b1], fun k u hu => ?_, fun k u hu => ?_⟩
      . have hlt : k < l.length := by have := (Array.getElem?_eq_some_iff.1 hu).1; simp at this; rw [a1]; simpa using this
        have e1 : nth (l ++ l') k = nth l k := by unfold nth; rw [List.getElem?_append_left hlt]
        rw [e1]
        exact a2 k u (by simpa using hu)
      . have e1 : nth (l ++ l') (l.length + k) = nth l' k := by unfold nth; rw [List.getElem?_append_right (by omega)]; congr 2; omega
        rw [e1]
        exact b2 k u (by simpa using hu)
    . cases hs
  | method n => cases hs
  | methodOf t n => cases hs
  | via t p f b => cases hs
  | yield l => cases hs
 case build t parts =>
  split at hs
  . rename_i fs sz z eq0 by0 ht
    cases hall : fs.all (fun x => x.2.2.isSome) with
    | false => rw [hall] at hs; cases hs
    | true =>
      rw [hall, cond_true] at hs
      split at hs
      . rename_i f hfill
        injection hs with hs
        subst hs
        exact (fun h => wp_of_runs h hK) (step_runs_build hT st ht hall E hfill)
      . cases hs
  . rename_i n e es b sz z eq0 by0 ht
    cases hb : Nat.blt 0 es with
    | false => rw [hb] at hs; cases hs
    | true =>
      have hb' := blt_pos hb
      rw [hb, cond_true] at hs
      split at hs
      . rename_i f hfill
        injection hs with hs
        subst hs
        exact (fun h => wp_of_runs h hK) (step_runs_buildA hT st ht E (by simp only [hb]; exact hfill) hb')
      . cases hs
  . cases hs
 case load t x =>
  have hx := E x
  split at hs
  . rename_i ti k i j sym ht hxe
    rw [hxe] at hx
    obtain ⟨b, hb, hv⟩ := hx
    split at hs
    . rename_i et en es v ef he
      refine wp_of_runs (o := ⟨dst, .load t x, type, pos, after, guard⟩) ?_ hK
      have h1 := step_runs_load (nm := nm) (wd := wd) hT st (b := b.b) (off := i * b.sz + j) ht hs hp (fun hq q hq2 => by
       have hi : i + 1 <= en := fits_ok hq
       obtain ⟨u, hu, hr⟩ := blk_cell st he hb (i := i) (j := j + q) (show i < en by omega) (show j + q < es by omega)
       exact ⟨u, by rw [Nat.add_assoc]; exact hu, hr⟩)
      rw [<- hv] at h1
      exact h1
    . cases hs
  . rename_i ti sh m g ht hxe
    rw [hxe] at hx
    obtain ⟨b, off, hv, ho, hX, hlt, hc⟩ := rp_addr hx
    refine wp_of_runs (o := ⟨dst, .load t x, type, pos, after, guard⟩) ?_ hK
    have h1 := step_runs_load (nm := nm) (wd := wd) hT st (b := b) (off := off) ht hs hp (fun _ => hc)
    rw [<- hv] at h1
    exact h1
  . cases hs
 case store t x y =>
  have hx := E x
  split at hs
  . rename_i d0 tsz z0 eq0 by0 k i j sym z ht hxe hye
    rw [hxe] at hx
    split at hs
    . rename_i et en es v ef n g he hc
      cases hb0 : Nat.beq n tsz with
      | false => rw [hb0] at hs; cases hs
      | true =>
        rw [hb0, cond_true] at hs
        have e1 : n = tsz := Nat.eq_of_beq_eq_true hb0
        injection hs with hs
        subst hs
        obtain ⟨p1, p2⟩ := both_ok.1 hp
        have q1 : i + 1 <= en := fits_ok p1
        exact (fun h => wp_of_runs h hK) (step_runs_store hT st ht hx he (fv_e (E y) hye) hc e1 (show i < en by omega) (fits_ok p2) _)
    . cases hs
  . cases hs
 case nilCheck x =>
  have hx := E x
  split at hs
  . rename_i k i j s hxe
    rw [hxe] at hx
    injection hs with hs
    subst hs
    have hx' := hx
    obtain ⟨b, hb, hv⟩ := hx
    exact (fun h => wp_of_runs h hK) ⟨a.eval x, w, .inl (by simp [execOp, hv]), left_still st rfl hx'⟩
  . rename_i sh m g hxe
    rw [hxe] at hx
    injection hs with hs
    subst hs
    have hx' := hx
    obtain ⟨ad, hv, _⟩ := hx
    exact (fun h => wp_of_runs h hK) ⟨a.eval x, w, .inl (by simp [execOp, hv]), left_still st rfl hx'⟩
  . rename_i f n m c hxe
    rw [hxe] at hx
    injection hs with hs
    subst hs
    have hx' := hx
    obtain ⟨fs, cs, hv, _⟩ := hx
    exact (fun h => wp_of_runs h hK) ⟨a.eval x, w, .inl (by simp [execOp, hv]), left_still st rfl hx'⟩
  . cases hs
 case binOp op t x y ty =>
  split at hs
  . rename_i p v hb
    rw [CV.see_eq] at hs
    injection hs with hs
    subst hs
    obtain ⟨z, h1, h2⟩ := bin_ok (P := P) hT hb hp (E x) (E y) x y
    exact (fun h => wp_of_runs h hK) (runs_val st h1 rfl h2)
  . cases hs
 case unOp op t x =>
  have hx := E x
  split at hs
  . rename_i b hxe
    rw [hxe] at hx
    have hv : a.eval x = .bool b := hx
    injection hs with hs
    subst hs
    exact (fun h => wp_of_runs h hK) (runs_val st (s := Op.unary .not (a.eval x)) (v := .bool (!b)) (by rw [hv]; rfl) rfl rfl)
  . rename_i k n hxe
    rw [hxe] at hx
    have hv : a.eval x = .int k n := hx
    injection hs with hs
    subst hs
    exact (fun h => wp_of_runs h hK) (runs_val st (s := Op.unary .neg (a.eval x)) (v := .int k (k.wrap (0 - n))) (by rw [hv]; rfl) rfl rfl)
  . rename_i k n hxe
    rw [hxe] at hx
    have hv : a.eval x = .int k n := hx
    injection hs with hs
    subst hs
    exact (fun h => wp_of_runs h hK) (runs_val st (s := Op.unary .xor (a.eval x)) (v := .int k (bits .xor k (if k.signed then -1 else k.max) n)) (by rw [hv]; rfl) rfl rfl)
  . cases hs
 case convert src dst' x =>
  have hx := E x
  split at hs
  . rename_i tis k sz z eq0 by0 kk n hsrc hdst hxe
    rw [hxe] at hx
    have hv : a.eval x = .int _ _ := hx
    injection hs with hs
    subst hs
    obtain ⟨d, hd, _⟩ := (hT _ _ hsrc).under
    obtain ⟨d', hd', htd⟩ := (hT _ _ hdst).under
    have := td_int htd
    subst this
    exact (fun h => wp_of_runs h hK) (runs_val st (s := convert src dst' (a.eval x)) (by rw [hv]; simp [convert, run_underlying hd, run_underlying hd', Conv.intToInt]) rfl rfl)
  . cases hs
 case fieldAddr t x i =>
  have hx := E x
  split at hs
  . rename_i fs sz z eq0 by0 k i1 j1 sym ht hxe
    rw [hxe] at hx
    obtain ⟨d, hd, htd⟩ := (hT _ _ ht).under
    obtain ⟨fa, rfl, hfa⟩ := td_struct htd
    obtain ⟨b, hb, hv⟩ := hx
    split at hs
    . rename_i o s bb hi
      obtain ⟨f, hf1, hf2, hf3, _⟩ := fs_at hfa hi
      cases hb0 : Nat.blt 0 s with
      | false => rw [hb0] at hs; cases hs
      | true =>
        rw [hb0, cond_true] at hs
        injection hs with hs
        subst hs
        refine (fun h => wp_of_runs h hK) (runs_val st (s := Instr.fieldAt t (a.eval x) i) (by rw [hv]; exact run_fieldAt hd hf1 hf3 (blt_pos hb0) b.b (i1 * b.sz + j1)) rfl ?_)
        exact ⟨b, hb, by rw [hf2, Nat.add_assoc]⟩
    . cases hs
  . rename_i fs sz z eq0 by0 sh m g ht hxe
    rw [hxe] at hx
    obtain ⟨d, hd, htd⟩ := (hT _ _ ht).under
    obtain ⟨fa, rfl, hfa⟩ := td_struct htd
    obtain ⟨b, off, hv, ho, hX, hlt, hc⟩ := rp_addr hx
    split at hs
    . rename_i o s bb hi
      obtain ⟨f, hf1, hf2, hf3, _⟩ := fs_at hfa hi
      cases hb0 : Nat.blt 0 s with
      | false => rw [hb0] at hs; cases hs
      | true =>
        rw [hb0, cond_true] at hs
        injection hs with hs
        subst hs
        refine (fun h => wp_of_runs h hK) (runs_val st (s := Instr.fieldAt t (a.eval x) i) (by rw [hv]; exact run_fieldAt hd hf1 hf3 (blt_pos hb0) b off) rfl ?_)
        refine rp_mk ho hX hlt fun j hj => ?_
        rw [hf2, Nat.add_assoc]
        exact hc (o + j) (by omega)
    . cases hs
  . cases hs
 case field t x i =>
  have hx := E x
  split at hs
  . rename_i fs sz z eq0 by0 n g ht hxe
    rw [hxe] at hx
    obtain ⟨cs, hv, hn, hg⟩ := hx
    obtain ⟨d, hd, htd⟩ := (hT _ _ ht).under
    obtain ⟨fa, rfl, hfa⟩ := td_struct htd
    split at hs
    . rename_i o s hi
      obtain ⟨f, hf1, hf2, hf3, hf4⟩ := fs_at hfa hi
      obtain ⟨df, hdf, haf⟩ := under_agg hf4
      cases hb0 : (Nat.blt 0 s && Nat.ble (o + s) n) with
      | false => rw [hb0] at hs; cases hs
      | true =>
        rw [hb0, cond_true] at hs
        simp only [Bool.and_eq_true] at hb0
        injection hs with hs
        subst hs
        obtain ⟨j, hj, hjs⟩ := szN_info hf3 (blt_pos hb0.1)
        refine (fun h => wp_of_runs h hK) (runs_val st (s := Instr.field t (a.eval x) i) (v := .agg (cs.extract o (o + s))) ?_ rfl (extract_rel hn (Nat.le_of_ble_eq_true hb0.2) hg))
        rw [hv]
        simp only [Instr.field, Sem.run_bind, run_underlying hd, Result.andThen_ok, hf1, asAgg, Sem.run_pure, run_partA hdf haf hj, hf2, hjs]
    . rename_i o s hi
      obtain ⟨f, hf1, hf2, hf3, hf4⟩ := fs_at hfa hi
      obtain ⟨df, hdf, haf⟩ := under_agg hf4
      cases hb0 : Nat.blt o n with
      | false => rw [hb0] at hs; cases hs
      | true =>
        rw [hb0, cond_true, CV.see_eq] at hs
        injection hs with hs
        subst hs
        have hlt : o < cs.size := by rw [hn]; exact Nat.le_of_ble_eq_true hb0
        have hco : cs[o]? = some cs[o] := Array.getElem?_eq_getElem hlt
        refine (fun h => wp_of_runs h hK) (runs_val st (s := Instr.field t (a.eval x) i) (v := cs[o]) ?_ rfl (hg _ _ hco))
        rw [hv]
        simp only [Instr.field, Sem.run_bind, run_underlying hd, Result.andThen_ok, hf1, asAgg, Sem.run_pure, hf2, run_partC hdf haf cs o hco]
    . cases hs
  . cases hs
 case indexAddr t x ix =>
  have hx := E x
  have hix := E ix
  split at hs
  . rename_i e es eb sz0 z eq0 by0 sh n sz f k i ht hxe hie
    rw [hxe] at hx
    rw [hie] at hix
    have hiv : a.eval ix = .int _ i := hix
    cases hb0 : (Nat.blt 0 es && Nat.beq sz es) with
    | false => rw [hb0] at hs; cases hs
    | true =>
      rw [hb0, cond_true] at hs
      simp only [Bool.and_eq_true] at hb0
      have e0 := blt_pos hb0.1
      have e1 : sz = es := Nat.eq_of_beq_eq_true hb0.2
      injection hs with hs
      subst hs
      obtain ⟨ad0, cap, hv, hnc, hc⟩ := hx
      obtain ⟨d, hd, htd⟩ := (hT _ _ ht).under
      obtain ⟨rfl, hes, hinf⟩ := td_slice htd
      obtain ⟨j, hj, hjs⟩ := szN_info hes e0
      have hp' : 0 <= i /\ i < (n : Int) := hp
      obtain ⟨ad, rfl, hsp, ho, hX, hlt, hcell⟩ := hc (by omega)
      refine (fun h => wp_of_runs h hK) (runs_val st (s := Instr.indexAt t (a.eval x) (a.eval ix)) (v := .pointer (some ⟨ad.block, ad.off + i.toNat * es, none⟩)) ?_ rfl ?_)
      . rw [hv, hiv]
        simp only [Instr.indexAt, asIntOf, Sem.run_bind, Sem.run_pure, run_underlying hd, Result.andThen_ok, hp', and_self, if_true, run_size hj, hjs, addS hsp]
      . refine rp_mk ho hX hlt fun q hq => ?_
        obtain ⟨u, hu, hru⟩ := hcell i.toNat (by omega) q hq
        exact ⟨u, by rw [Nat.add_assoc, <- e1]; exact hu, hru⟩
  . rename_i e es eb sz0 z eq0 by0 k b n kk i ht hxe hie
    rw [hxe] at hx
    rw [hie] at hix
    have hiv : a.eval ix = .int _ i := hix
    split at hs
    . rename_i et en esz ev0 ef he
      cases hb0 : (Nat.blt 0 es && Nat.beq esz es) with
      | false => rw [hb0] at hs; cases hs
      | true =>
        rw [hb0, cond_true] at hs
        simp only [Bool.and_eq_true] at hb0
        have e0 := blt_pos hb0.1
        have e1 : esz = es := Nat.eq_of_beq_eq_true hb0.2
        injection hs with hs
        subst hs
        obtain ⟨ad0, cap, hv, hnc, hc⟩ := hx
        obtain ⟨d, hd, htd⟩ := (hT _ _ ht).under
        obtain ⟨rfl, hes, hinf⟩ := td_slice htd
        obtain ⟨j, hj, hjs⟩ := szN_info hes e0
        have hp' : 0 <= i /\ i < (n : Int) := hp
        obtain ⟨bi, hb1, rfl, _⟩ := hc (by omega)
        obtain ⟨_, _, hxs, _⟩ := blk_at st he hb1
        simp only at hxs
        refine (fun h => wp_of_runs h hK) (runs_val st (s := Instr.indexAt t (a.eval x) (a.eval ix)) (v := .pointer (some ⟨bi.b, b * bi.sz + i.toNat * es, none⟩)) ?_ rfl ⟨bi, hb1, ?_⟩)
        . rw [hv, hiv]
          simp only [Instr.indexAt, asIntOf, Sem.run_bind, Sem.run_pure, run_underlying hd, Result.andThen_ok, hp', and_self, if_true, run_size hj, hjs, addN]
        . rw [hxs, e1, Nat.add_mul, Nat.add_zero]
    . cases hs
  . rename_i e es eb sz0 z eq0 by0 k b j n s kk i ht hxe hie
    rw [hxe] at hx
    rw [hie] at hix
    have hiv : a.eval ix = .int _ i := hix
    cases hb0 : (Nat.blt 0 es && Nat.beq s es) with
    | false => rw [hb0] at hs; cases hs
    | true =>
      rw [hb0, cond_true] at hs
      simp only [Bool.and_eq_true] at hb0
      have e0 := blt_pos hb0.1
      have e1 : s = es := Nat.eq_of_beq_eq_true hb0.2
      injection hs with hs
      subst hs
      obtain ⟨ad0, cap, hv, hnc, hc⟩ := hx
      obtain ⟨d, hd, htd⟩ := (hT _ _ ht).under
      obtain ⟨rfl, hes, hinf⟩ := td_slice htd
      obtain ⟨q, hj, hjs⟩ := szN_info hes e0
      have hp' : 0 <= i /\ i < (n : Int) := hp
      obtain ⟨bi, hb1, rfl⟩ := hc (by omega)
      refine (fun h => wp_of_runs h hK) (runs_val st (s := Instr.indexAt t (a.eval x) (a.eval ix)) (v := .pointer (some ⟨bi.b, b * bi.sz + j + i.toNat * es, none⟩)) ?_ rfl ⟨bi, hb1, ?_⟩)
      . rw [hv, hiv]
        simp only [Instr.indexAt, asIntOf, Sem.run_bind, Sem.run_pure, run_underlying hd, Result.andThen_ok, hp', and_self, if_true, run_size hj, hjs, addN]
      . rw [e1, Nat.add_assoc]
  . rename_i n e es b sz0 z eq0 by0 k i1 j1 sym kk i ht hxe hie
    rw [hxe] at hx
    rw [hie] at hix
    have hiv : a.eval ix = .int _ i := hix
    cases hb0 : Nat.blt 0 es with
    | false => rw [hb0] at hs; cases hs
    | true =>
      rw [hb0, cond_true] at hs
      have e0 := blt_pos hb0
      injection hs with hs
      subst hs
      obtain ⟨b, hb, hv⟩ := hx
      obtain ⟨d, hd, htd⟩ := (hT _ _ ht).under
      obtain ⟨rfl, hes, _⟩ := td_arr htd
      obtain ⟨j, hj, hjs⟩ := szN_info hes e0
      have hp' : 0 <= i /\ i < (n : Int) := hp
      refine (fun h => wp_of_runs h hK) (runs_val st (s := Instr.indexAt t (a.eval x) (a.eval ix)) (v := .pointer (some ⟨b.b, i1 * b.sz + j1 + i.toNat * es, none⟩)) ?_ rfl ⟨b, hb, by rw [Nat.add_assoc]⟩)
      rw [hv, hiv]
      simp only [Instr.indexAt, asIntOf, Instr.sureAddr, Sem.run_bind, Sem.run_pure, run_underlying hd, Result.andThen_ok, hp', and_self, if_true, run_size hj, hjs, addN]
  . rename_i n e es b sz0 z eq0 by0 sh m g kk i ht hxe hie
    rw [hxe] at hx
    rw [hie] at hix
    have hiv : a.eval ix = .int _ i := hix
    cases hb0 : Nat.blt 0 es with
    | false => rw [hb0] at hs; cases hs
    | true =>
      rw [hb0, cond_true] at hs
      have e0 := blt_pos hb0
      injection hs with hs
      subst hs
      obtain ⟨b, off, hv, ho, hX, hlt, hc⟩ := rp_addr hx
      obtain ⟨d, hd, htd⟩ := (hT _ _ ht).under
      obtain ⟨rfl, hes, _⟩ := td_arr htd
      obtain ⟨j, hj, hjs⟩ := szN_info hes e0
      have hp' : 0 <= i /\ i < (n : Int) := hp
      refine (fun h => wp_of_runs h hK) (runs_val st (s := Instr.indexAt t (a.eval x) (a.eval ix)) (v := .pointer (some ⟨b, off + i.toNat * es, none⟩)) ?_ rfl ?_)
      . rw [hv, hiv]
        simp only [Instr.indexAt, asIntOf, Instr.sureAddr, Sem.run_bind, Sem.run_pure, run_underlying hd, Result.andThen_ok, hp', and_self, if_true, run_size hj, hjs, addN]
      . refine rp_mk ho hX hlt fun q hq => ?_
        rw [Nat.add_assoc]
        exact hc _ (by omega)
  . cases hs
 case index t x ix =>
  have hx := E x
  have hix := E ix
  split at hs
  . rename_i n e es sz0 z eq0 by0 m g kk i ht hxe hie
    rw [hxe] at hx
    rw [hie] at hix
    have hiv : a.eval ix = .int _ i := hix
    cases hb0 : (Nat.blt 0 es && Nat.ble (n * es) m) with
    | false => rw [hb0] at hs; cases hs
    | true =>
      rw [hb0, cond_true] at hs
      simp only [Bool.and_eq_true] at hb0
      have e0 := blt_pos hb0.1
      have em := Nat.le_of_ble_eq_true hb0.2
      injection hs with hs
      subst hs
      obtain ⟨cs, hv, hn, hg⟩ := hx
      obtain ⟨d, hd, htd⟩ := (hT _ _ ht).under
      obtain ⟨rfl, hes, hea⟩ := td_arr htd
      obtain ⟨de, hde, hae⟩ := under_agg hea
      obtain ⟨j, hj, hjs⟩ := szN_info hes e0
      have hp2 : 0 <= i /\ i < (n : Int) := hp
      have hle : i.toNat * es + es <= m := by have := row_lt (sz := es) (show i.toNat < n by omega); omega
      refine (fun h => wp_of_runs h hK) (runs_val st (s := Instr.index t (a.eval x) (a.eval ix)) (v := .agg (cs.extract (i.toNat * es) (i.toNat * es + es))) ?_ rfl (extract_rel hn hle hg))
      rw [hv, hiv]
      simp only [Instr.index, asIntOf, Sem.run_bind, Sem.run_pure, run_underlying hd, Result.andThen_ok, hp2, and_self, if_true, run_size hj, hjs, run_partA hde hae hj]
  . rename_i n e es sz0 z eq0 by0 m g kk i ht hxe hie
    rw [hxe] at hx
    rw [hie] at hix
    have hiv : a.eval ix = .int _ i := hix
    cases hb0 : (Nat.blt 0 es && Nat.ble (n * es) m) with
    | false => rw [hb0] at hs; cases hs
    | true =>
      rw [hb0, cond_true, CV.see_eq] at hs
      simp only [Bool.and_eq_true] at hb0
      have e0 := blt_pos hb0.1
      have em := Nat.le_of_ble_eq_true hb0.2
      injection hs with hs
      subst hs
      obtain ⟨cs, hv, hn, hg⟩ := hx
      obtain ⟨d, hd, htd⟩ := (hT _ _ ht).under
      obtain ⟨rfl, hes, hea⟩ := td_arr htd
      obtain ⟨de, hde, hae⟩ := under_agg hea
      obtain ⟨j, hj, hjs⟩ := szN_info hes e0
      have hp2 : 0 <= i /\ i < (n : Int) := hp
      have hlt : i.toNat * es < cs.size := by have := row_lt (sz := es) (show i.toNat < n by omega); omega
      have hco : cs[i.toNat * es]? = some (cs[i.toNat * es]'hlt) := Array.getElem?_eq_getElem hlt
      refine (fun h => wp_of_runs h hK) (runs_val st (s := Instr.index t (a.eval x) (a.eval ix)) (v := cs[i.toNat * es]'hlt) ?_ rfl (hg _ _ hco))
      rw [hv, hiv]
      simp only [Instr.index, asIntOf, Sem.run_bind, Sem.run_pure, run_underlying hd, Result.andThen_ok, hp2, and_self, if_true, run_size hj, hjs, run_partC hde hae cs _ hco]
  . cases hs
 case extract x i =>
  have hx := E x
  split at hs
  . rename_i l hxe
    rw [hxe] at hx
    obtain ⟨vs, hv, hn, hg⟩ := hx
    split at hs
    . rename_i y hy
      rw [EV.see_eq] at hs
      injection hs with hs
      subst hs
      have hlt : i < vs.size := by rw [hn]; exact (List.getElem?_eq_some_iff.1 hy).1
      have hco : vs[i]? = some vs[i] := Array.getElem?_eq_getElem hlt
      refine (fun h => wp_of_runs h hK) (runs_val st (s := Instr.extract (a.eval x) i) (v := vs[i]) ?_ rfl (hg i y _ hy hco))
      rw [hv]
      simp only [Instr.extract, hco, Sem.run_pure]
    . cases hs
  . cases hs
 case makeMap t rs =>
  cases rs with
  | some y => cases hs
  | none => exact (fun h => wp_of_runs h hK) (step_map_new hT st hfr hwd hs)
 case lookup t x k ok => exact (fun h => wp_of_runs h hK) (step_map_get hT st hs hp (E x) (E k))
 case mapUpdate t m k x => exact (fun h => wp_of_runs h hK) (step_map_set hT st hs hp (E m) (E k) (E x))
 case insert t m k x => exact (fun h => wp_of_runs h hK) (step_map_set hT st hs hp (E m) (E k) (E x))
 case slice t x lo hi mx =>
  cases mx with
  | some m => simp only [reduceCtorEq] at hs
  | none =>
  simp only at hs
  obtain ⟨v, h1, h2, h3⟩ := slice_ok (P := P) hT st E hs hp
  exact (fun h => wp_of_runs h hK) (runs_val st h1 h2 h3)
 case call c =>
  obtain ⟨callee, args, ts⟩ := c
  cases callee with
  | builtin b =>
    simp only at hs
    refine wp_of_runs ?_ hK
    have h1 := fun cs => callB_ok (nm := nm) (wd := wd) (type := type) (cs := cs) hT st hfr hwd hs hp (relL_of st (xs := args) hf)
    simp only [execOp, resolve, invoke, pure_bind]
    exact h1 _
  | invoke x m => cases hs
  | value f => cases hs
def Stp (P : Program) (T : Tys) (o : Op) (fr : Fr) (H : Hp) (nm wd : Nat) (sr : SR) : Prop :=
 (stepF T o fr H nm = some sr /\ preOk sr.pre) \/ ∃ f args, callOf o fr = some (f, args) /\ CallR P f args H nm wd sr
theorem stp_ok (hT : TysOk P T) {o : Oper} {sr : SR} (hs : Stp P T o.op fr H nm wd sr) (st : St cx r H w) (hf : FrOk cx r H w fr a.tmps) (hfr : Free r H nm wd) (hall : ALLN ∈ sr.rd -> ∀ k, nm <= k -> r k = none /\ hget H k = none) (hwd : 0 < wd)
 {K : Act -> World -> Prop} {Q : Exit -> Act -> World -> Prop} (hK : ∀ v w', Left cx r H w nm wd sr v w' -> K (a.put o.dst v) w') : o.wp P a w K Q := by
 rcases hs with ⟨h1, h2⟩ | ⟨f1, args1, hc, hr⟩
 . exact step_ok hT h1 h2 st hf hfr hwd hK
 . obtain ⟨dst, op, type, pos, after, guard⟩ := o
   unfold callOf at hc
   simp only at hc
   split at hc
   . rename_i f args ts
     split at hc
     . rename_i f2 n m c hfe
       injection hc with hc
       injection hc with hc1 hc2
       subst hc1 hc2
       have hfv := ev_ok st hf f
       rw [hfe] at hfv
       obtain ⟨fs, cs, hv, h1, h2, h3, h4⟩ := hfv
       obtain ⟨⟨fn, g1, g2, g3⟩, g4⟩ := hr
       have g4 := g4 H (fun _ _ => rfl) cx r w (fs ++ args.map a.eval ++ cs) st hfr (fun h => ⟨fun _ => rfl, hall h⟩) (fn_vals (relL_of st hf) h1 h2 h3 h4)
       unfold Oper.wp
       have hrun : (execOp a.eval ⟨dst, .call ⟨.value f, args, ts⟩, type, pos, after, guard⟩).run P w = .ok (.enter f2 (fs ++ args.map a.eval ++ cs)) w := by
        have g2' : fn.body.isNone = false := by cases hb : fn.body with | none => rw [hb] at g2; cases g2 | some c => rfl
        have g3' : ¬ fn.name = "runtime.NumGoroutine" := by simpa using g3
        simp [execOp, resolve, hv, Deferred.ofValue, invoke, callFunc, g1, g3']
        intro hb; rw [hb] at g2; cases g2
       rw [hrun, Oper.upon_enter]
       refine g4.mono fun e w' he => ?_
       obtain ⟨v, rfl, hl⟩ := he
       exact hK v w' hl
     . cases hc
   . cases hc
end
end Go.Proofs.Ytfaibcgakcmhcaa.AX
namespace Go.Proofs.Ytfaibcgakcmhcaa.AX
section
variable {α : Type}
def hasKey (e : List (Nat × α)) (t : Nat) : Bool := e.any fun p => Nat.beq p.1 t
theorem hasKey_cons (k : Nat) (v : α) (e : List (Nat × α)) (t : Nat) : hasKey ((k, v) :: e) t = (Nat.beq k t || hasKey e t) := rfl
theorem beq_comm' (a b : Nat) : Nat.beq a b = Nat.beq b a := by
 cases h : Nat.beq a b with
 | true => have := Nat.eq_of_beq_eq_true h; subst this; exact h.symm
 | false =>
   cases h2 : Nat.beq b a with
   | false => rfl
   | true => have := Nat.eq_of_beq_eq_true h2; subst this; rw [h] at h2; exact h2
theorem look_append (d : α) : ∀ (e b : List (Nat × α)) (t : Nat), look d (e ++ b) t = bif hasKey e t then look d e t else look d b t := by
 intro e
 induction e with
 | nil => intro b t; rfl
 | cons p e ih =>
   intro b t
   obtain ⟨k, v⟩ := p
   rw [hasKey_cons, List.cons_append, look, look, ih, beq_comm' k t]
   cases Nat.beq t k <;> simp
def sel (S : Nat -> Bool) : List (List (Nat × α)) -> Nat -> List (Nat × α) -> List (Nat × α)
 | [], _, b => b
 | e :: es, k, b => sel S es (k + 1) (bif S k then e ++ b else b)
theorem sel_congr (d : α) (t : Nat) (S S' : Nat -> Bool) : ∀ (es : List (List (Nat × α))) (k : Nat) (b b' : List (Nat × α)), look d b t = look d b' t ->
 (∀ j e, es[j]? = some e -> hasKey e t = true -> S (k + j) = S' (k + j)) -> look d (sel S es k b) t = look d (sel S' es k b') t := by
 intro es
 induction es with
 | nil => intro k b b' h _; exact h
 | cons e es ih =>
   intro k b b' h hs
   rw [sel, sel]
   refine ih _ _ _ ?_ fun j e' he hk => ?_
   . cases hk : hasKey e t with
     | true =>
       have h0 := hs 0 e rfl hk
       rw [Nat.add_zero] at h0
       rw [<- h0]
       cases S k with
       | true => rw [cond_true, cond_true, look_append, look_append, hk]; rfl
       | false => exact h
     | false =>
       have : ∀ (c : Bool) (x : List (Nat × α)), look d (bif c then e ++ x else x) t = look d x t := fun c x => by
        cases c with
        | true => rw [cond_true, look_append, hk]; rfl
        | false => rfl
       rw [this, this, h]
   . have := hs (j + 1) e' (by simpa using he) hk
     rw [show k + 1 + j = k + (j + 1) by omega]
     exact this
theorem sel_over (d : α) (S : Nat -> Bool) (E : List (Nat × α)) : ∀ (es : List (List (Nat × α))) (k : Nat) (b : List (Nat × α)) (t : Nat),
 (∀ j e, es[j]? = some e -> S (k + j) = true -> ∀ t, hasKey E t = true -> hasKey e t = false) -> look d (sel S es k (E ++ b)) t = look d (E ++ sel S es k b) t := by
 intro es k b t h
 cases hE : hasKey E t with
 | true =>
   rw [look_append, hE, cond_true]
   have h1 : look d (sel S es k (E ++ b)) t = look d (sel (fun _ => false) es k (E ++ b)) t := sel_congr d t _ _ es k _ _ rfl fun j e he hk => by
    cases hS : S (k + j) with
    | false => rfl
    | true => rw [h j e he hS t hE] at hk; cases hk
   rw [h1]
   have h2 : ∀ (es : List (List (Nat × α))) (k : Nat) (x : List (Nat × α)), sel (fun _ => false) es k x = x := by
    intro es
    induction es with
    | nil => intro k x; rfl
    | cons e es ih => intro k x; rw [sel]; exact ih _ _
   rw [h2, look_append, hE]; rfl
 | false =>
   rw [look_append, hE, cond_false]
   exact sel_congr d t _ _ es k _ _ (by rw [look_append, hE]; rfl) fun _ _ _ _ => rfl
theorem sel_more (d : α) (S : Nat -> Bool) : ∀ (es : List (List (Nat × α))) (k : Nat) (b : List (Nat × α)) (m : Nat) (E : List (Nat × α)) (t : Nat), es[m]? = some E -> S (k + m) = false ->
 (∀ j e, m < j -> es[j]? = some e -> S (k + j) = true -> ∀ t, hasKey E t = true -> hasKey e t = false) ->
 look d (sel (fun x => x == k + m || S x) es k b) t = look d (E ++ sel S es k b) t := by
 intro es
 induction es with
 | nil => intro k b m E t h; cases m <;> cases h
 | cons e es ih =>
   intro k b m E t he hS hj
   cases m with
   | zero =>
     simp only [List.getElem?_cons_zero, Option.some.injEq] at he
     subst he
     simp only [Nat.add_zero] at hS
     rw [sel, sel]
     simp only [Nat.add_zero, beq_self_eq_true, Bool.true_or, cond_true, hS, cond_false]
     have h1 : look d (sel (fun x => x == k || S x) es (k + 1) (e ++ b)) t = look d (sel S es (k + 1) (e ++ b)) t := sel_congr d t _ _ es _ _ _ rfl fun j _ _ _ => by
      have : (k + 1 + j == k) = false := by simp; omega
      simp [this]
     rw [h1]
     exact sel_over d S e es (k + 1) b t fun j e' he' hS' t ht => hj (j + 1) e' (by omega) (by simpa using he') (by rw [show k + (j + 1) = k + 1 + j by omega]; exact hS') t ht
   | succ m =>
     have he' : es[m]? = some E := by simpa using he
     have hk : (k == k + (m + 1)) = false := by simp
     rw [sel, sel]
     simp only [hk, Bool.false_or]
     have := ih (k + 1) (bif S k then e ++ b else b) m E t he' (by rw [show k + 1 + m = k + (m + 1) by omega]; exact hS) (fun j e' hmj hej hSj => hj (j + 1) e' (by omega) (by simpa using hej) (by rw [show k + (j + 1) = k + 1 + j by omega]; exact hSj))
     rw [show k + 1 + m = k + (m + 1) by omega] at this
     exact this
theorem sel_take : ∀ (es : List (List (Nat × α))) (k m : Nat) (b : List (Nat × α)), sel (fun x => decide (x < k + m)) es k b = sel (fun _ => true) (es.take m) k b := by
 intro es
 induction es with
 | nil => intro k m b; simp [sel]
 | cons e es ih =>
   intro k m b
   cases m with
   | zero =>
     rw [List.take_zero]
     simp only [Nat.add_zero]
     have : ∀ (es : List (List (Nat × α))) (q : Nat) (x : List (Nat × α)), k <= q -> sel (fun x => decide (x < k)) es q x = x := by
      intro es
      induction es with
      | nil => intro q x _; rfl
      | cons e es ih => intro q x hq; rw [sel, decide_eq_false (by omega), cond_false]; exact ih _ _ (by omega)
     exact this _ _ _ (Nat.le_refl _)
   | succ m =>
     rw [List.take_succ_cons, sel, sel, decide_eq_true (by omega)]
     have := ih (k + 1) m (e ++ b)
     rw [show k + 1 + m = k + (m + 1) by omega] at this
     exact this
end
def mask (acc : List Nat) (o : Oper) : Nat := o.after.toList.foldl (fun s e => bif Region.binds .any e then s ||| (2 ^ e.on ||| (acc[e.on]?).getD 0) else s) 0
def masks : List Oper -> List Nat -> List Nat
 | [], acc => acc
 | o :: os, acc => masks os (acc ++ [mask acc o])
theorem mask_fold {acc : List Nat} {Z : Nat -> Prop} {j : Nat} : ∀ (l : List Edge) (s : Nat), (s.testBit j = true -> Z j) -> (∀ e ∈ l, Region.binds .any e = true -> (∀ x, (x = e.on \/ ((acc[e.on]?).getD 0).testBit x = true) -> Z x)) ->
 (l.foldl (fun s e => bif Region.binds .any e then s ||| (2 ^ e.on ||| (acc[e.on]?).getD 0) else s) s).testBit j = true -> Z j := by
 intro l
 induction l with
 | nil => intro s hs _ h; exact hs h
 | cons e l ih =>
   intro s hs hl h
   rw [List.foldl_cons] at h
   refine ih _ (fun h1 => ?_) (fun e' he' => hl e' (List.mem_cons_of_mem _ he')) h
   cases hb : Region.binds .any e with
   | false => rw [hb, cond_false] at h1; exact hs h1
   | true =>
     rw [hb, cond_true, Nat.testBit_or, Nat.testBit_or, Nat.testBit_two_pow] at h1
     simp only [Bool.or_eq_true, decide_eq_true_eq] at h1
     rcases h1 with h1 | h1 | h1
     . exact hs h1
     . exact hl e (List.mem_cons_self ..) hb j (.inl h1.symm)
     . exact hl e (List.mem_cons_self ..) hb j (.inr h1)
theorem masks_closed {ops : List Oper} {Z : Nat -> Prop} (hZ : ∀ i o, ops[i]? = some o -> Z i -> ∀ e ∈ o.after, Region.binds .any e = true -> Z e.on) :
 ∀ (os : List Oper) (acc : List Nat), (∀ j, os[j]? = ops[acc.length + j]?) -> (∀ i m, acc[i]? = some m -> Z i -> ∀ j, m.testBit j = true -> Z j) ->
 ∀ i m, (masks os acc)[i]? = some m -> Z i -> ∀ j, m.testBit j = true -> Z j := by
 intro os
 induction os with
 | nil => intro acc _ h; exact h
 | cons o os ih =>
   intro acc hos h
   refine ih (acc ++ [mask acc o]) (fun j => ?_) (fun i m hi hz j hj => ?_)
   . have := hos (j + 1)
     simp only [List.getElem?_cons_succ] at this
     rw [this, List.length_append, List.length_singleton]
     congr 1; omega
   . rcases Nat.lt_or_ge i acc.length with hlt | hge
     . rw [List.getElem?_append_left hlt] at hi
       exact h i m hi hz j hj
     . rw [List.getElem?_append_right hge] at hi
       have h0 : i - acc.length = 0 := by
        rcases Nat.eq_zero_or_pos (i - acc.length) with h0 | h0
        . exact h0
        . rw [List.getElem?_eq_none (by simp; omega)] at hi; cases hi
       rw [h0] at hi
       simp only [List.getElem?_cons_zero, Option.some.injEq] at hi
       subst hi
       have hio : ops[i]? = some o := by
        have := hos 0
        simp only [List.getElem?_cons_zero, Nat.add_zero] at this
        rw [show i = acc.length by omega]; exact this.symm
       refine mask_fold (Z := Z) o.after.toList 0 (fun h1 => by simp at h1) (fun e he hb x hx => ?_) hj
       have hZe := hZ i o hio hz e (by simpa using he) hb
       rcases hx with rfl | hx
       . exact hZe
       . cases ha : acc[e.on]? with
         | none => rw [ha] at hx; simp at hx
         | some m' => rw [ha] at hx; exact h e.on m' ha hZe x hx
end Go.Proofs.Ytfaibcgakcmhcaa.AX
namespace Go.Proofs.Ytfaibcgakcmhcaa.AX
open Go.RowKit
def tmpsOf (o : Op) : List Nat := o.operands.toList.filterMap fun | .tmp t => some t | _ => none
theorem ev_congr {fr fr' : Fr} {o : Op} (h : ∀ t ∈ tmpsOf o, fget fr t = fget fr' t) {x : Operand} (hx : x ∈ o.operands) : ev fr x = ev fr' x := by
 cases x with
 | tmp t => exact h t (List.mem_filterMap.2 ⟨.tmp t, by simpa using hx, rfl⟩)
 | const v => rfl
 | global g => rfl
 | func f => rfl
theorem loadF_rd {ti : TI} {m : Nat} {g : Nat -> CV} {lit : Bool} {q : Option Prop} {rd : List Nat} {sr : SR} (h : loadF ti m g lit q rd = some sr) : sr.rd = rd := by
 unfold loadF at h
 split at h
 . injection h with h; subst h; rfl
 . injection h with h; subst h; rfl
 . rw [CV.see_eq] at h; injection h with h; subst h; rfl
theorem cond_some {α : Type} {c : Bool} {a b : α} (h : (bif c then some a else none) = some b) : c = true /\ a = b := by
 cases c with
 | true => exact ⟨rfl, by injection h⟩
 | false => cases h
theorem srcOf_congr {H H' : Hp} {sz : Nat} {x : FV} {s : Src} (h : srcOf H sz x = some s) (hh : ∀ k ∈ s.rd, hget H k = hget H' k) : srcOf H' sz x = some s := by
 unfold srcOf at h ⊢
 split at h
 . exact h
 . exact h
 . rename_i nm i n
   try simp only
   split at h
   . rename_i et en es ev f he
     cases hb : Nat.beq es sz with
     | false => rw [hb] at h; cases h
     | true =>
       rw [hb, cond_true] at h
       injection h with h; subst h
       rw [<- hh nm (List.mem_singleton.2 rfl), he]
       simp only [hb, cond_true]
   . cases h
 . rename_i nm i j n s'
   try simp only
   split at h
   . rename_i et en es ev f he
     cases hb : Nat.beq s' sz with
     | false => rw [hb] at h; cases h
     | true =>
       rw [hb, cond_true] at h
       injection h with h; subst h
       rw [<- hh nm (List.mem_singleton.2 rfl), he]
       simp only [hb, cond_true]
   . cases h
 . cases h
theorem appZ_congr {T : Tys} {t t' : TypeId} {x y : FV} {H H' : Hp} {nm : Nat} {sr : SR} (h : appZ T t t' x y H nm = some sr) (hh : ∀ k ∈ sr.rd, hget H k = hget H' k) : appZ T t t' x y H' nm = some sr := by
 unfold appZ at h ⊢
 split at h
 . rename_i e es _ _ _ _ kk _ _ _ _ hTt hTt'
   try simp only
   split at h
   . rename_i d1 s1 z eq1 bytes k i n kq q hTe
     try simp only [hTe]
     split at h
     . rename_i et en esz f he
       cases hbc : (Nat.beq i 0 && Nat.beq esz es && Nat.beq et e && Nat.beq z.length es && Nat.blt 0 es) with
       | false => rw [hbc] at h; cases h
       | true =>
         rw [hbc, cond_true] at h
         injection h with h; subst h
         rw [<- hh k (List.mem_singleton.2 rfl), he]
         simp only [hbc, cond_true]
     . cases h
   . cases h
 . cases h
theorem callB_congr {T : Tys} {b : Builtin} {ts : Array TypeId} {args : List FV} {H H' : Hp} {nm : Nat} {sr : SR} (h : callB T b ts args H nm = some sr) (hh : ∀ k ∈ sr.rd, hget H k = hget H' k) : callB T b ts args H' nm = some sr := by
 unfold callB at h ⊢
 split at h
 . exact h
 . exact h
 . exact h
 . rename_i x y
   try simp only
   split at h
   . rename_i t t' hts
     try simp only [hts]
     cases hbt : Nat.beq t t' with
     | false =>
       rw [hbt, cond_false] at h
       rw [cond_false]
       exact appZ_congr h hh
     | true =>
       rw [hbt, cond_true] at h
       rw [cond_true]
       split at h
       . rename_i e es s0 z0 eq0 by0 hTt
         try simp only
         split at h
         . rename_i d1 s1 z eq1 bytes m g p rd hTe hsrc
           have hrd : ∀ k ∈ rd, k ∈ sr.rd := by
            cases hbz : Nat.beq z.length es with
            | false => rw [hbz] at h; cases h
            | true =>
              rw [hbz, cond_true] at h
              split at h
              . injection h with h; subst h; exact fun k hk => hk
              . split at h
                . obtain ⟨_, h⟩ := cond_some h
                  subst h; exact fun k hk => List.mem_cons_of_mem _ hk
                . cases h
              . cases h
           cases hb0 : Nat.blt 0 es with
           | false => rw [hb0] at hsrc; cases hsrc
           | true =>
             rw [hb0, cond_true] at hsrc
             rw [cond_true, srcOf_congr hsrc (fun k hk => hh k (hrd k hk)), hTe]
             try simp only
             cases hbz : Nat.beq z.length es with
             | false => rw [hbz] at h; cases h
             | true =>
               rw [hbz, cond_true] at h
               rw [cond_true]
               split at h
               . exact h
               . rename_i k i n
                 try simp only
                 split at h
                 . rename_i et en esz f he
                   cases hbc : (Nat.beq i 0 && Nat.beq esz es && Nat.beq et e) with
                   | false => rw [hbc] at h; cases h
                   | true =>
                     rw [hbc, cond_true] at h
                     injection h with h; subst h
                     rw [<- hh k (List.mem_cons_self ..), he]
                     simp only [hbc, cond_true]
                 . cases h
               . cases h
         . cases h
       . cases h
   . cases h
 . rename_i x y
   try simp only
   split at h
   . rename_i t ht
     try simp only
     split at h
     . rename_i e es s0 z0 eq0 by0 hTt
       try simp only
       split at h
       . rename_i m g p rd hsrc
         have hrd : ∀ k ∈ rd, k ∈ sr.rd := by
          split at h
          . split at h
            . obtain ⟨_, h⟩ := cond_some h
              subst h; exact fun k hk => List.mem_cons_of_mem _ hk
            . cases h
          . split at h
            . obtain ⟨_, h⟩ := cond_some h
              subst h; exact fun k hk => List.mem_cons_of_mem _ hk
            . cases h
          . cases h
         cases hb0 : Nat.blt 0 es with
         | false => rw [hb0] at hsrc; cases hsrc
         | true =>
           rw [hb0, cond_true] at hsrc
           rw [cond_true, srcOf_congr hsrc (fun k hk => hh k (hrd k hk))]
           try simp only
           split at h
           . rename_i k i n
             try simp only
             split at h
             . rename_i et en esz f he
               cases hbc : Nat.beq esz es with
               | false => rw [hbc] at h; cases h
               | true =>
                 rw [hbc, cond_true] at h
                 injection h with h; subst h
                 rw [<- hh k (List.mem_cons_self ..), he]
                 simp only [hbc, cond_true]
             . cases h
           . rename_i k i j n s
             try simp only
             split at h
             . rename_i et en esz v f he
               cases hbc : Nat.beq s es with
               | false => rw [hbc] at h; cases h
               | true =>
                 rw [hbc, cond_true] at h
                 injection h with h; subst h
                 rw [<- hh k (List.mem_cons_self ..), he]
                 simp only [hbc, cond_true]
             . cases h
           . cases h
       . cases h
     . cases h
   . cases h
 . cases h
theorem sliceF_congr {T : Tys} {t : TypeId} {x : FV} {lo hi : Option FV} {H H' : Hp} {sr : SR} (h : sliceF T H t x lo hi = some sr) (hh : ∀ k ∈ sr.rd, hget H k = hget H' k) : sliceF T H' t x lo hi = some sr := by
 unfold sliceF at h ⊢
 split at h
 . exact h
 . rename_i e es s0 z0 eq0 by0 k i n ht
   try simp only
   split at h
   . rename_i p l q hb
     try simp only
     split at h
     . rename_i et en esz ev0 ef he
       cases hb0 : Nat.beq esz es with
       | false => rw [hb0] at h; cases h
       | true =>
         rw [hb0, cond_true] at h
         injection h with h; subst h
         rw [<- hh k (List.mem_singleton.2 rfl), he]
         simp only [hb0, cond_true]
     . cases h
   . cases h
 . exact h
 . exact h
 . exact h
 . cases h
theorem mapGet_congr {T : Tys} {H H' : Hp} {t : TypeId} {x k : FV} {ok : Bool} {sr : SR} (h : mapGet T H t x k ok = some sr) (hh : ∀ k ∈ sr.rd, hget H k = hget H' k) : mapGet T H' t x k ok = some sr := by
 unfold mapGet at h ⊢
 split at h
 . rename_i kt et ks vs ka va _ _ _ _ nm hTt
   try simp only
   split at h
   . rename_i et' n sz b f kn l g ed z0 z eq0 by0 hH hkey hTe
     obtain ⟨hb, hs⟩ := cond_see h
     have hs' := Option.some.inj hs
     have hrd : nm ∈ sr.rd := by rw [<- hs']; exact List.mem_singleton.2 rfl
     rw [<- hh nm hrd, hH, hTe]
     simp only [hkey]
     exact h
   . cases h
 . cases h
theorem mapSet_congr {T : Tys} {H H' : Hp} {t : TypeId} {x k v : FV} {sr : SR} (h : mapSet T H t x k v = some sr) (hh : ∀ k ∈ sr.rd, hget H k = hget H' k) : mapSet T H' t x k v = some sr := by
 unfold mapSet at h ⊢
 split at h
 . rename_i kt et ks vs ka va _ _ _ _ nm ve hTt
   try simp only
   split at h
   . rename_i et' n sz b f kn l g vn vg hH hkey hcv
     obtain ⟨hb, hs⟩ := cond_some' h
     have hrd : nm ∈ sr.rd := by rw [<- hs]; exact List.mem_singleton.2 rfl
     rw [<- hh nm hrd, hH, hcv]
     simp only [hkey]
     exact h
   . cases h
 . cases h
theorem stepF_congr {T : Tys} {o : Op} {fr fr' : Fr} {H H' : Hp} {nm : Nat} {sr : SR} (h : stepF T o fr H nm = some sr) (hf : ∀ t ∈ tmpsOf o, fget fr t = fget fr' t) (hh : ∀ k ∈ sr.rd, hget H k = hget H' k) :
 stepF T o fr' H' nm = some sr := by
 have E : ∀ x, x ∈ o.operands -> ev fr x = ev fr' x := fun x hx => ev_congr hf hx
 cases o
 case load t x =>
  have e1 := E x (by simp [Op.operands])
  simp only [stepF] at h ⊢
  rw [<- e1]
  split at h
  . rename_i ti k i j sym h1 h2
    split at h
    . rename_i et en es v ef he
      have := hh k (by rw [loadF_rd h]; exact List.mem_singleton.2 rfl)
      rw [<- this, he]
      exact h
    . cases h
  . exact h
  . cases h
 case store t x y =>
  have e1 := E x (by simp [Op.operands])
  have e2 := E y (by simp [Op.operands])
  simp only [stepF] at h ⊢
  rw [<- e1, <- e2]
  split at h
  . rename_i d0 tsz z0 eq0 by0 k i j sym z h1 h2 h3
    split at h
    . rename_i et en es v ef n g he hc
      cases hb0 : Nat.beq n tsz with
      | false => rw [hb0] at h; cases h
      | true =>
        rw [hb0, cond_true] at h
        injection h with h
        subst h
        have := hh k (List.mem_singleton.2 rfl)
        rw [<- this, he, hc]
        simp only [hb0, cond_true]
    . cases h
  . cases h
 case call c =>
  obtain ⟨callee, args, ts⟩ := c
  have hm : args.toList.map (ev fr) = args.toList.map (ev fr') := List.map_congr_left fun x hx => E x (by simp [Op.operands, Call.operands]; exact .inr (by simpa using hx))
  cases callee with
  | builtin b => simp only [stepF] at h ⊢; rw [<- hm]; exact callB_congr h hh
  | invoke x m => simp only [stepF, reduceCtorEq] at h
  | value f => simp only [stepF, reduceCtorEq] at h
 case build t ps =>
  have hm : (ps.toList.map fun p => (p.1, ev fr p.2)) = ps.toList.map fun p => (p.1, ev fr' p.2) := List.map_congr_left fun p hp => by
   rw [E p.2 (by simp [Op.operands]; exact ⟨p.1, by simpa using hp⟩)]
  simp only [stepF] at h ⊢
  rw [<- hm]
  exact h
 case buildSlice t len ps =>
  have hm : (ps.toList.map fun p => (p.1, ev fr p.2)) = ps.toList.map fun p => (p.1, ev fr' p.2) := List.map_congr_left fun p hp => by
   rw [E p.2 (by simp [Op.operands]; exact ⟨p.1, by simpa using hp⟩)]
  simp only [stepF] at h ⊢
  rw [<- hm]
  exact h
 case makeFunc fn first captured =>
  have h1 : first.toList.map (ev fr) = first.toList.map (ev fr') := List.map_congr_left fun x hx => E x (by simp [Op.operands]; exact .inl (by simpa using hx))
  have h2 : captured.toList.map (ev fr) = captured.toList.map (ev fr') := List.map_congr_left fun x hx => E x (by simp [Op.operands]; exact .inr (by simpa using hx))
  cases fn with
  | func f => simp only [stepF] at h ⊢; rw [<- h1, <- h2]; exact h
  | method n => simp only [stepF, reduceCtorEq] at h
  | methodOf t n => simp only [stepF, reduceCtorEq] at h
  | via t p f b => simp only [stepF, reduceCtorEq] at h
  | yield l => simp only [stepF, reduceCtorEq] at h
 case makeMap t rs =>
  cases rs with
  | some y => simp only [stepF, reduceCtorEq] at h
  | none => simp only [stepF] at h ⊢; exact h
 case lookup t x k ok => simp only [stepF] at h ⊢; rw [<- E x (by simp [Op.operands]), <- E k (by simp [Op.operands])]; exact mapGet_congr h hh
 case mapUpdate t m k x => simp only [stepF] at h ⊢; rw [<- E m (by simp [Op.operands]), <- E k (by simp [Op.operands]), <- E x (by simp [Op.operands])]; exact mapSet_congr h hh
 case insert t m k x => simp only [stepF] at h ⊢; rw [<- E m (by simp [Op.operands]), <- E k (by simp [Op.operands]), <- E x (by simp [Op.operands])]; exact mapSet_congr h hh
 case slice t x lo hi mx =>
  have e1 := E x (by simp [Op.operands])
  have e2 : lo.map (ev fr) = lo.map (ev fr') := by
   cases lo with
   | none => rfl
   | some y => simp only [Option.map_some, E y (by simp [Op.operands])]
  have e3 : hi.map (ev fr) = hi.map (ev fr') := by
   cases hi with
   | none => rfl
   | some y => simp only [Option.map_some, E y (by simp [Op.operands])]
  cases mx with
  | some m => simp only [stepF, reduceCtorEq] at h
  | none =>
    simp only [stepF] at h ⊢
    rw [<- e1, <- e2, <- e3]
    exact sliceF_congr h hh
 case indexAddr t x y =>
  simp only [stepF] at h ⊢
  rw [<- E x (by simp [Op.operands]), <- E y (by simp [Op.operands])]
  split at h
  . exact h
  . rename_i e es eb sz0 z eq0 by0 k b n kk i ht hxe hie
    split at h
    . rename_i et en esz ev0 ef he
      cases hb0 : (Nat.blt 0 es && Nat.beq esz es) with
      | false => rw [hb0] at h; cases h
      | true =>
        rw [hb0, cond_true] at h
        injection h with h; subst h
        rw [<- hh k (List.mem_singleton.2 rfl), he]
        simp only [hb0, cond_true]
    . cases h
  . exact h
  . exact h
  . exact h
  . cases h
 case pick c x y => simp only [stepF] at h ⊢; rw [<- E c (by simp [Op.operands]), <- E x (by simp [Op.operands]), <- E y (by simp [Op.operands])]; exact h
 case binOp op t x y ty => simp only [stepF] at h ⊢; rw [<- E x (by simp [Op.operands]), <- E y (by simp [Op.operands])]; exact h
 case makeSlice t x y => simp only [stepF] at h ⊢; rw [<- E x (by simp [Op.operands]), <- E y (by simp [Op.operands])]; exact h
 case index t x y => simp only [stepF] at h ⊢; rw [<- E x (by simp [Op.operands]), <- E y (by simp [Op.operands])]; exact h
 case move x => simp only [stepF] at h ⊢; rw [<- E x (by simp [Op.operands])]; exact h
 case assign x => simp only [stepF] at h ⊢; rw [<- E x (by simp [Op.operands])]; exact h
 case alloc t => simp only [stepF] at h ⊢; exact h
 case box t x => simp only [stepF] at h ⊢; rw [<- E x (by simp [Op.operands])]; exact h
 case nilCheck x => simp only [stepF] at h ⊢; rw [<- E x (by simp [Op.operands])]; exact h
 case unOp op t x => simp only [stepF] at h ⊢; rw [<- E x (by simp [Op.operands])]; exact h
 case convert s d x => simp only [stepF] at h ⊢; rw [<- E x (by simp [Op.operands])]; exact h
 case fieldAddr t x f => simp only [stepF] at h ⊢; rw [<- E x (by simp [Op.operands])]; exact h
 case field t x f => simp only [stepF] at h ⊢; rw [<- E x (by simp [Op.operands])]; exact h
 case extract x i => simp only [stepF] at h ⊢; rw [<- E x (by simp [Op.operands])]; exact h
 all_goals simp only [stepF, reduceCtorEq] at h
theorem callOf_congr {o : Op} {fr fr' : Fr} (hf : ∀ t ∈ tmpsOf o, fget fr t = fget fr' t) : callOf o fr' = callOf o fr := by
 have E : ∀ x, x ∈ o.operands -> ev fr x = ev fr' x := fun x hx => ev_congr hf hx
 cases o
 case call c =>
  obtain ⟨callee, args, ts⟩ := c
  have hm : args.toList.map (ev fr) = args.toList.map (ev fr') := List.map_congr_left fun x hx => E x (by simp [Op.operands, Call.operands]; exact .inr (by simpa using hx))
  cases callee with
  | builtin b => rfl
  | invoke x m => rfl
  | value f =>
    have e1 := E f (by simp [Op.operands, Call.operands])
    simp only [callOf]
    rw [<- hm, <- e1]
 all_goals rfl
theorem stp_congr {P : Program} {T : Tys} {o : Op} {fr fr' : Fr} {H H' : Hp} {nm wd : Nat} {sr : SR} (h : Stp P T o fr H nm wd sr) (hf : ∀ t ∈ tmpsOf o, fget fr t = fget fr' t) (hh : ∀ k ∈ sr.rd, hget H k = hget H' k) (hall : ALLN ∈ sr.rd -> ∀ k, hget H k = hget H' k) : Stp P T o fr' H' nm wd sr := by
 rcases h with ⟨h1, h2⟩ | ⟨f, args, h1, h2, h3⟩
 . exact .inl ⟨stepF_congr h1 hf hh, h2⟩
 . exact .inr ⟨f, args, (callOf_congr hf).trans h1, h2, fun H2 hH2 cx r w vals g1 g2 gw g3 => h3 H2 (fun k hk => (hh k hk).trans (hH2 k hk)) cx r w vals g1 g2 (fun h => ⟨fun k => (hall h k).trans ((gw h).1 k), (gw h).2⟩) g3⟩
def putD (d : Option Tmp) (v : FV) : Fr :=
 match d with
 | some t => [(t, v)]
 | none => []
def keysOf (e : Hp) : List Nat := e.map (·.1)
def guardT (all : List Oper) (j : Nat) : Option Nat := (all[j]?).bind (·.dst)
def wants (all : List Oper) (o : Oper) (fr : Fr) : Option Bool :=
 match o.guard with
 | none => some true
 | some (j, want) =>
   match guardT all j with
   | some t => match fget fr t with
     | .e (.c (.bool b)) => some (bif want then b else !b)
     | .tup [] => some false
     | _ => none
   | none => none
def isG (all : List Oper) (i : Nat) : Bool := all.any fun o => match o.guard with | some (j, _) => Nat.beq j i | none => false
def okDst (nt : Nat) : Option Tmp -> Bool
 | some t => Nat.blt t nt
 | none => true
abbrev Log := List (List Nat × List Nat)
abbrev Qf := (FV -> Hp -> List Nat -> Prop) -> Prop
abbrev Qs := FuncId -> List FV -> Hp -> Nat -> Nat -> Option Qf
def QsOk (P : Program) (Q : Qs) : Prop := ∀ f args H nm wd q, 0 < wd -> Q f args H nm wd = some q -> ∀ K, q K -> ∃ v e rd, CallR P f args H nm wd ⟨none, v, e, rd⟩ /\ K v e rd
def QsMono (Q : Qs) : Prop := ∀ f args H nm wd q, Q f args H nm wd = some q -> ∀ K K' : FV -> Hp -> List Nat -> Prop, (∀ v e rd, K v e rd -> K' v e rd) -> q K -> q K'
def runR (T : Tys) (Q : Qs) (wd nt : Nat) (all : List Oper) : List Oper -> Nat -> Fr -> Hp -> Nat -> Log -> (Fr -> Hp -> Nat -> Log -> Prop) -> Prop
 | [], _, fr, H, nx, log, K => K fr H nx log
 | o :: rest, i, fr, H, nx, log, K =>
   bif okDst nt o.dst then
    match wants all o fr with
    | some true =>
      match callOf o.op fr with
      | some (f, args) =>
        match Q f args H nx wd, isG all i with
        | some q, false => q fun v e rd => runR T Q wd nt all rest (i + 1) (putD o.dst v ++ fr) (e ++ H) (nx + wd) ((keysOf e, rd) :: log) K
        | _, _ => False
      | none =>
        match stepF T o.op fr H nx with
        | some ⟨pre, val, eff, rd⟩ =>
          match pre, isG all i, val with
          | none, false, v => runR T Q wd nt all rest (i + 1) (putD o.dst v ++ fr) (eff ++ H) (nx + wd) ((keysOf eff, rd) :: log) K
          | some p, false, v => p /\ runR T Q wd nt all rest (i + 1) (putD o.dst v ++ fr) (eff ++ H) (nx + wd) ((keysOf eff, rd) :: log) K
          | none, true, .e (.c (.bool b)) => (b = true -> runR T Q wd nt all rest (i + 1) (putD o.dst (.e (.c (.bool true))) ++ fr) (eff ++ H) (nx + wd) ((keysOf eff, rd) :: log) K) /\ (b = false -> runR T Q wd nt all rest (i + 1) (putD o.dst (.e (.c (.bool false))) ++ fr) (eff ++ H) (nx + wd) ((keysOf eff, rd) :: log) K)
          | some p, true, .e (.c (.bool b)) => p /\ (b = true -> runR T Q wd nt all rest (i + 1) (putD o.dst (.e (.c (.bool true))) ++ fr) (eff ++ H) (nx + wd) ((keysOf eff, rd) :: log) K) /\ (b = false -> runR T Q wd nt all rest (i + 1) (putD o.dst (.e (.c (.bool false))) ++ fr) (eff ++ H) (nx + wd) ((keysOf eff, rd) :: log) K)
          | _, _, _ => False
        | none => False
    | some false => runR T Q wd nt all rest (i + 1) (putD o.dst (.tup []) ++ fr) H (nx + wd) (([], []) :: log) K
    | none => False
   else False
structure Rec where
 ex : Bool
 val : FV
 eff : Hp
 rd : List Nat
def GoodAt (P : Program) (T : Tys) (wd nt : Nat) (all : List Oper) (o : Oper) (rc : Rec) (fr : Fr) (H : Hp) (nm : Nat) : Prop :=
 okDst nt o.dst = true /\ wants all o fr = some rc.ex /\
 match rc.ex with
 | true => ∃ sr, Stp P T o.op fr H nm wd sr /\ sr.val = rc.val /\ sr.eff = rc.eff /\ sr.rd = rc.rd
 | false => rc.val = .tup [] /\ rc.eff = [] /\ rc.rd = []
def Good (P : Program) (T : Tys) (wd nt : Nat) (all : List Oper) : List Oper -> List Rec -> Fr -> Hp -> Nat -> Prop
 | [], [], _, _, _ => True
 | o :: os, rc :: rs, fr, H, nx => GoodAt P T wd nt all o rc fr H nx /\ Good P T wd nt all os rs (putD o.dst rc.val ++ fr) (rc.eff ++ H) (nx + wd)
 | _, _, _, _, _ => False
def frEs (os : List Oper) (rs : List Rec) : List Fr := List.zipWith (fun o rc => putD o.dst rc.val) os rs
def hpEs (rs : List Rec) : List Hp := rs.map (·.eff)
def logOf (rs : List Rec) : Log := rs.map fun rc => (keysOf rc.eff, rc.rd)
theorem selS {α : Type} : ∀ (es : List (List (Nat × α))) (k k' : Nat) (b : List (Nat × α)), sel (fun _ => true) es k b = sel (fun _ => true) es k' b := by
 intro es
 induction es with
 | nil => intro k k' b; rfl
 | cons e es ih => intro k k' b; rw [sel, sel]; exact ih _ _ _
theorem runR_good {P : Program} {T : Tys} {Q : Qs} {wd nt : Nat} (hwd : 0 < wd) (hQ : QsOk P Q) {all : List Oper} : ∀ (os : List Oper) (i : Nat) (fr : Fr) (H : Hp) (nx : Nat) (log : Log) (K : Fr -> Hp -> Nat -> Log -> Prop), runR T Q wd nt all os i fr H nx log K ->
 ∃ rs, Good P T wd nt all os rs fr H nx /\ K (sel (fun _ => true) (frEs os rs) 0 fr) (sel (fun _ => true) (hpEs rs) 0 H) (nx + wd * os.length) ((logOf rs).reverse ++ log) := by
 intro os
 induction os with
 | nil => intro i fr H nx log K h; exact ⟨[], trivial, h⟩
 | cons o os ih =>
   intro i fr H nx log K h
   have fin : ∀ (rc : Rec), GoodAt P T wd nt all o rc fr H nx -> runR T Q wd nt all os (i + 1) (putD o.dst rc.val ++ fr) (rc.eff ++ H) (nx + wd) ((keysOf rc.eff, rc.rd) :: log) K ->
    ∃ rs, Good P T wd nt all (o :: os) rs fr H nx /\ K (sel (fun _ => true) (frEs (o :: os) rs) 0 fr) (sel (fun _ => true) (hpEs rs) 0 H) (nx + wd * (o :: os).length) ((logOf rs).reverse ++ log) := by
    intro rc hg hr
    obtain ⟨rs, h1, h2⟩ := ih _ _ _ _ _ _ hr
    refine ⟨rc :: rs, ⟨hg, h1⟩, ?_⟩
    have e1 : sel (fun _ => true) (frEs (o :: os) (rc :: rs)) 0 fr = sel (fun _ => true) (frEs os rs) 0 (putD o.dst rc.val ++ fr) := by
     show sel _ (putD o.dst rc.val :: frEs os rs) 0 fr = _
     rw [sel, cond_true]; exact selS _ _ _ _
    have e2 : sel (fun _ => true) (hpEs (rc :: rs)) 0 H = sel (fun _ => true) (hpEs rs) 0 (rc.eff ++ H) := by
     show sel _ (rc.eff :: hpEs rs) 0 H = _
     rw [sel, cond_true]; exact selS _ _ _ _
    rw [e1, e2, List.length_cons, show nx + wd * (os.length + 1) = nx + wd + wd * os.length by rw [Nat.mul_add, Nat.mul_one]; omega]
    have e3 : (logOf (rc :: rs)).reverse ++ log = (logOf rs).reverse ++ ((keysOf rc.eff, rc.rd) :: log) := by simp [logOf]
    rw [e3]
    exact h2
   unfold runR at h
   cases hd : okDst nt o.dst with
   | false => rw [hd] at h; exact h.elim
   | true =>
     rw [hd, cond_true] at h
     split at h
     . rename_i hw
       split at h
       . rename_i f args hc
         split at h
         . rename_i q hq hG
           obtain ⟨v, e, rd, hr, hk⟩ := hQ _ _ _ _ _ _ hwd hq _ h
           exact fin ⟨true, v, e, rd⟩ ⟨hd, hw, _, .inr ⟨f, args, hc, hr⟩, rfl, rfl, rfl⟩ hk
         . exact h.elim
       . split at h
         . rename_i pre val eff rd hs
           split at h
           . exact fin ⟨true, _, eff, rd⟩ ⟨hd, hw, _, .inl ⟨hs, trivial⟩, rfl, rfl, rfl⟩ h
           . exact fin ⟨true, _, eff, rd⟩ ⟨hd, hw, _, .inl ⟨hs, h.1⟩, rfl, rfl, rfl⟩ h.2
           . rename_i b hG
             rcases Bool.eq_false_or_eq_true b with hb | hb
             . subst hb; exact fin ⟨true, _, eff, rd⟩ ⟨hd, hw, _, .inl ⟨hs, trivial⟩, rfl, rfl, rfl⟩ (h.1 rfl)
             . subst hb; exact fin ⟨true, _, eff, rd⟩ ⟨hd, hw, _, .inl ⟨hs, trivial⟩, rfl, rfl, rfl⟩ (h.2 rfl)
           . rename_i p b hG
             rcases Bool.eq_false_or_eq_true b with hb | hb
             . subst hb; exact fin ⟨true, _, eff, rd⟩ ⟨hd, hw, _, .inl ⟨hs, h.1⟩, rfl, rfl, rfl⟩ (h.2.1 rfl)
             . subst hb; exact fin ⟨true, _, eff, rd⟩ ⟨hd, hw, _, .inl ⟨hs, h.1⟩, rfl, rfl, rfl⟩ (h.2.2 rfl)
           . exact h.elim
         . exact h.elim
     . rename_i hw
       exact fin ⟨false, .tup [], [], []⟩ ⟨hd, hw, rfl, rfl, rfl⟩ h
     . exact h.elim
theorem Good.at {P : Program} {T : Tys} {wd nt : Nat} {all : List Oper} : ∀ (os : List Oper) (rs : List Rec) (fr : Fr) (H : Hp) (nx : Nat), Good P T wd nt all os rs fr H nx -> os.length = rs.length /\
 ∀ (i : Nat) o, os[i]? = some o -> ∃ rc, rs[i]? = some rc /\ GoodAt P T wd nt all o rc (sel (fun _ => true) ((frEs os rs).take i) 0 fr) (sel (fun _ => true) ((hpEs rs).take i) 0 H) (nx + wd * i) := by
 intro os
 induction os with
 | nil =>
   intro rs fr H nx h
   cases rs with
   | nil => exact ⟨rfl, fun i o h => by cases i <;> cases h⟩
   | cons => exact h.elim
 | cons o os ih =>
   intro rs fr H nx h
   cases rs with
   | nil => exact h.elim
   | cons rc rs =>
     obtain ⟨hg, hr⟩ := h
     obtain ⟨hl, hi⟩ := ih _ _ _ _ hr
     refine ⟨by simp [hl], fun i o' ho => ?_⟩
     cases i with
     | zero =>
       simp only [List.getElem?_cons_zero, Option.some.injEq] at ho
       subst ho
       exact ⟨rc, rfl, hg⟩
     | succ i =>
       obtain ⟨rc', h1, h2⟩ := hi i o' (by simpa using ho)
       refine ⟨rc', by simpa using h1, ?_⟩
       have e1 : sel (fun _ => true) ((frEs (o :: os) (rc :: rs)).take (i + 1)) 0 fr = sel (fun _ => true) ((frEs os rs).take i) 0 (putD o.dst rc.val ++ fr) := by
        show sel _ ((putD o.dst rc.val :: frEs os rs).take (i + 1)) 0 fr = _
        rw [List.take_succ_cons, sel, cond_true]; exact selS _ _ _ _
       have e2 : sel (fun _ => true) ((hpEs (rc :: rs)).take (i + 1)) 0 H = sel (fun _ => true) ((hpEs rs).take i) 0 (rc.eff ++ H) := by
        show sel _ ((rc.eff :: hpEs rs).take (i + 1)) 0 H = _
        rw [List.take_succ_cons, sel, cond_true]; exact selS _ _ _ _
       rw [e1, e2, show nx + wd * (i + 1) = nx + wd + wd * i by rw [Nat.mul_add, Nat.mul_one]; omega]
       exact h2
def looks (all : List Oper) (o : Oper) : List Nat :=
 tmpsOf o.op ++ (match o.guard with | some (j, _) => (guardT all j).toList | none => [])
def memN (l : List Nat) (t : Nat) : Bool := l.any (Nat.beq t)
theorem memN_of {l : List Nat} {t : Nat} (h : t ∈ l) : memN l t = true := List.any_eq_true.2 ⟨t, h, by simp⟩
def dstIn (l : List Nat) : Option Tmp -> Bool
 | some t => memN l t
 | none => false
def dstEq : Option Tmp -> Option Tmp -> Bool
 | some t, some u => Nat.beq t u
 | _, _ => false
def meets (a b : List Nat) : Bool := a.any (memN b)
def confl (all : List Oper) (o : Oper) (l : List Nat × List Nat) (o' : Oper) (l' : List Nat × List Nat) : Bool :=
 memN l.2 ALLN || memN l'.2 ALLN || dstIn (looks all o) o'.dst || dstIn (looks all o') o.dst || dstEq o.dst o'.dst || meets l.1 l'.1 || meets l.1 l'.2 || meets l.2 l'.1
def regOk (all : List Oper) (log : Log) : Bool :=
 let ms := masks all []
 (List.range all.length).all fun j =>
   match all[j]?, log[j]?, ms[j]? with
   | some oj, some lj, some m =>
     (oj.after.toList.all fun e => !Region.binds .any e || Nat.blt e.on j) &&
     (List.range j).all fun i =>
       match all[i]?, log[i]? with
       | some oi, some li => !confl all oi li oj lj || m.testBit i
       | _, _ => false
   | _, _, _ => false
def regOkA (all : List Oper) (log : Log) : Bool := regOk all log
theorem regOk_edge {all : List Oper} {log : Log} (h : regOk all log = true) {j : Nat} {oj : Oper} (hj : all[j]? = some oj) : ∀ e ∈ oj.after, Region.binds .any e = true -> e.on < j := by
 have hlt : j < all.length := (List.getElem?_eq_some_iff.1 hj).1
 have := List.all_eq_true.1 h j (List.mem_range.2 hlt)
 simp only [hj] at this
 split at this
 . rename_i o l m h1 h2 h3
   injection h1 with h1
   subst h1
   simp only [Bool.and_eq_true] at this
   intro e he hb
   have := List.all_eq_true.1 this.1 e (by simpa using he)
   rw [hb] at this
   simpa using this
 . cases this
theorem regOk_pair {all : List Oper} {log : Log} (h : regOk all log = true) {i j : Nat} {oi oj : Oper} {li lj : List Nat × List Nat} (hij : i < j) (hi : all[i]? = some oi) (hj : all[j]? = some oj) (hli : log[i]? = some li) (hlj : log[j]? = some lj) (hc : confl all oi li oj lj = true) :
 ∃ m, (masks all [])[j]? = some m /\ m.testBit i = true := by
 have hlt : j < all.length := (List.getElem?_eq_some_iff.1 hj).1
 have := List.all_eq_true.1 h j (List.mem_range.2 hlt)
 simp only [hj, hlj] at this
 split at this
 . rename_i o l m h1 h2 h3
   injection h1 with h1
   injection h2 with h2
   subst h1 h2
   simp only [Bool.and_eq_true] at this
   have := List.all_eq_true.1 this.2 i (List.mem_range.2 hij)
   simp only [hi, hli, hc] at this
   exact ⟨m, h3, by simpa using this⟩
 . cases this
def unl : List Bool -> Nat
 | [] => 0
 | b :: l => (bif b then 0 else 1) + unl l
theorem unl_set : ∀ (l : List Bool) (i : Nat), l[i]? = some false -> unl (l.set i true) + 1 = unl l := by
 intro l
 induction l with
 | nil => intro i h; cases i <;> cases h
 | cons b l ih =>
   intro i h
   cases i with
   | zero => simp only [List.getElem?_cons_zero, Option.some.injEq] at h; subst h; simp only [List.set_cons_zero, unl, cond_true, cond_false]; omega
   | succ i => simp only [List.set_cons_succ, unl]; have := ih i (by simpa using h); omega
theorem unl_zero : ∀ (l : List Bool), unl l = 0 -> ∀ (i : Nat), i < l.length -> l[i]? = some true := by
 intro l
 induction l with
 | nil => intro _ i h; simp at h
 | cons b l ih =>
   intro h i hi
   cases b with
   | false => simp only [unl, cond_false] at h; omega
   | true =>
     cases i with
     | zero => rfl
     | succ i => simp only [unl, cond_true] at h; simpa using ih (by omega) i (by simpa using hi)
section
variable {P : Program} {cx : Cx} {T : Tys} {wd nt : Nat} {d0 : List Deferred}
theorem put_tmps {a : Act} {d : Option Tmp} {v : Value} : (a.put d v).tmps.size = a.tmps.size /\ (a.put d v).defers = a.defers := by
 cases d with
 | none => exact ⟨rfl, rfl⟩
 | some t => exact ⟨by simp [Act.put], rfl⟩
theorem FrOk.put {r : Ren} {H : Hp} {w : World} {fr : Fr} {a : Act} (h : FrOk cx r H w fr a.tmps) {d : Option Tmp} (hd : okDst a.tmps.size d = true) {x : FV} {v : Value} (hx : x.rel r cx.X (wr r H) w v) :
 FrOk cx r H w (putD d x ++ fr) (a.put d v).tmps := by
 cases d with
 | none => exact h
 | some t =>
   intro u
   have hlt : t < a.tmps.size := Nat.le_of_ble_eq_true hd
   by_cases hu : u = t
   . subst hu
     have e1 : fget (putD (some u) x ++ fr) u = x := look_cons_eq _ _ _ _
     rw [e1]
     simpa [Act.put, hlt] using hx
   . have e1 : fget (putD (some t) x ++ fr) u = fget fr u := look_cons_ne _ _ _ hu
     rw [e1]
     have := h u
     simp only [Act.put, Array.getD_eq_getD_getElem?] at this ⊢
     rw [Array.getElem?_setIfInBounds_ne (Ne.symm hu)]
     exact this
theorem wanted_of {all : List Oper} {o : Oper} {r : Ren} {H : Hp} {w : World} {fr : Fr} {a : Act} {b : Bool} (h : FrOk cx r H w fr a.tmps) (hw : wants all o fr = some b) :
 Region.wanted o (yielded all.toArray a.tmps) = b := by
 unfold wants at hw
 unfold Region.wanted
 cases hg : o.guard with
 | none => rw [hg] at hw; simp at hw; rw [<- hw]
 | some gw =>
   obtain ⟨j, want⟩ := gw
   rw [hg] at hw
   simp only at hw ⊢
   split at hw
   . rename_i t ht
     split at hw
     . rename_i c hc
       injection hw with hw
       have hv := h t
       rw [hc] at hv
       have hv' : a.tmps.getD t undef = .bool c := hv
       have hy : yielded all.toArray a.tmps j = some c := by
        have ht' : (all[j]?).bind (·.dst) = some t := ht
        have hv2 : a.tmps[t]? = some (.bool c) := by
         cases hat : a.tmps[t]? with
         | none => simp [Array.getD_eq_getD_getElem?, hat, undef] at hv'
         | some u => simp [Array.getD_eq_getD_getElem?, hat] at hv'; rw [hv']
        simp [yielded, ht', hv2]
       rw [hy, <- hw]
       cases want <;> cases c <;> rfl
     . rename_i hc
       injection hw with hw
       have hv := h t
       rw [hc] at hv
       obtain ⟨vs, hv', _, _⟩ := hv
       have hy : yielded all.toArray a.tmps j = none := by
        have ht' : (all[j]?).bind (·.dst) = some t := ht
        cases hat : a.tmps[t]? with
        | none => simp [yielded, ht', hat]
        | some u =>
          have : u = .tuple vs := by simpa [Array.getD_eq_getD_getElem?, hat] using hv'
          subst this
          simp [yielded, ht', hat]
       rw [hy, <- hw]
       rfl
     . cases hw
   . cases hw
structure Inv (cx : Cx) (all : List Oper) (rs : List Rec) (fr0 : Fr) (H0 : Hp) (nx wd nt : Nat) (d0 : List Deferred) (fx : Ren) (listed : Array Bool) (a : Act) (w : World) (r : Ren) : Prop where
 size : listed.size = all.length
 closed : ∀ i o, all[i]? = some o -> listed.getD i false = true -> ∀ e ∈ o.after, Region.binds .any e = true -> listed.getD e.on false = true
 st : St cx r (sel (fun i => listed.getD i false) (hpEs rs) 0 H0) w
 fr : FrOk cx r (sel (fun i => listed.getD i false) (hpEs rs) 0 H0) w (sel (fun i => listed.getD i false) (frEs all rs) 0 fr0) a.tmps
 names : ∀ k, nx <= k -> (∀ i, listed.getD i false = true -> ¬ (nx + wd * i <= k /\ k < nx + wd * i + wd)) -> r k = none /\ hget (sel (fun i => listed.getD i false) (hpEs rs) 0 H0) k = none
 tsz : a.tmps.size = nt
 defers : a.defers = d0
 low : ∀ k, k < nx -> r k = fx k
theorem getD_set {l : Array Bool} {i j : Nat} (hi : i < l.size) : (l.setIfInBounds i true).getD j false = (j == i || l.getD j false) := by
 by_cases h : j = i
 . subst h; simp [hi]
 . simp [Array.getElem?_setIfInBounds_ne (Ne.symm h), h]
theorem any_order (hT : TysOk P T) {all : List Oper} {rs : List Rec} {fr0 : Fr} {H0 : Hp} {nx : Nat} (hwd : 0 < wd) (hg : Good P T wd nt all all rs fr0 H0 nx) (hok : regOk all (logOf rs) = true) {fx : Ren}
 {Q : Exit -> Act -> World -> Prop}
 (hQ : ∀ a w r, St cx r (sel (fun _ => true) (hpEs rs) 0 H0) w -> FrOk cx r (sel (fun _ => true) (hpEs rs) 0 H0) w (sel (fun _ => true) (frEs all rs) 0 fr0) a.tmps -> (∀ k, nx + wd * all.length <= k -> r k = none /\ hget (sel (fun _ => true) (hpEs rs) 0 H0) k = none) -> a.tmps.size = nt -> a.defers = d0 -> (∀ k, k < nx -> r k = fx k) -> Q .normal a w) :
 ∀ (fuel : Nat) (listed : Array Bool) (a : Act) (w : World) (r : Ren), unl listed.toList = fuel -> Inv cx all rs fr0 H0 nx wd nt d0 fx listed a w r -> wpAny P .any all.toArray Q fuel listed a w := by
 obtain ⟨hlen, hat⟩ := Good.at _ _ _ _ _ hg
 have full : ∀ (listed : Array Bool) (a : Act) (w : World) (r : Ren), (∀ i, i < all.length -> listed.getD i false = true) -> Inv cx all rs fr0 H0 nx wd nt d0 fx listed a w r -> Q .normal a w := by
  intro listed a w r hall inv
  have e1 : ∀ t, fget (sel (fun i => listed.getD i false) (frEs all rs) 0 fr0) t = fget (sel (fun _ => true) (frEs all rs) 0 fr0) t := fun t => sel_congr _ _ _ _ _ _ _ _ rfl fun j e he _ => by
   rw [Nat.zero_add]
   have : j < (frEs all rs).length := (List.getElem?_eq_some_iff.1 he).1
   exact hall j (by simp [frEs] at this; omega)
  have e2 : ∀ t, hget (sel (fun i => listed.getD i false) (hpEs rs) 0 H0) t = hget (sel (fun _ => true) (hpEs rs) 0 H0) t := fun t => sel_congr _ _ _ _ _ _ _ _ rfl fun j e he _ => by
   rw [Nat.zero_add]
   have : j < (hpEs rs).length := (List.getElem?_eq_some_iff.1 he).1
   exact hall j (by simp [hpEs] at this; omega)
  refine hQ a w r (inv.st.congr e2) (inv.fr.congr e2 e1) (fun k hk => ?_) inv.tsz inv.defers inv.low
  rw [<- e2 k]
  refine inv.names k (by omega) fun i hi => ?_
  have : i < listed.size := by
   rcases Nat.lt_or_ge i listed.size with h | h
   . exact h
   . rw [Array.getD_eq_getD_getElem?, Array.getElem?_eq_none h] at hi; cases hi
  rw [inv.size] at this
  have h9 : wd * (i + 1) <= wd * all.length := Nat.mul_le_mul_left _ this
  rw [Nat.mul_add, Nat.mul_one] at h9
  omega
 have nilAll : ∀ (listed : Array Bool), listed.size = all.length -> Region.ready .any all.toArray listed = [] -> ∀ i, i < all.length -> listed.getD i false = true := by
  intro listed hs hr i
  induction i using Nat.strongRecOn with
  | _ i ih =>
    intro hi
    cases hb : listed.getD i false with
    | true => rfl
    | false =>
      have ho : all[i]? = some all[i] := List.getElem?_eq_getElem hi
      have : i ∈ Region.ready .any all.toArray listed := mem_ready.2 ⟨by
       rw [Array.getD_eq_getD_getElem?] at hb ⊢
       rw [Array.getElem?_eq_getElem (by omega)] at hb ⊢
       exact hb, all[i], by simp [hi], fun e he hbn => by
        have hlt := regOk_edge hok ho e he hbn
        exact ih e.on hlt (by omega)⟩
      rw [hr] at this
      cases this
 intro fuel
 induction fuel with
 | zero =>
   intro listed a w r hu inv
   have hall : ∀ i, i < all.length -> listed.getD i false = true := fun i hi => by
    have := unl_zero _ hu i (by simpa [inv.size] using hi)
    have h2 : listed[i]? = some true := by simpa using this
    rw [Array.getD_eq_getD_getElem?, h2]; rfl
   refine ⟨?_, full listed a w r hall inv⟩
   rw [List.eq_nil_iff_forall_not_mem]
   intro i hi
   obtain ⟨h1, o, ho, _⟩ := mem_ready.1 hi
   have hil : i < all.length := by simpa using (Array.getElem?_eq_some_iff.1 ho).1
   have := hall i hil
   rw [Array.getD_eq_getD_getElem?] at h1 this
   rw [Array.getElem?_eq_getElem (by rw [inv.size]; exact hil)] at h1 this
   simp only [Option.getD_some] at h1 this
   rw [h1] at this
   cases this
 | succ fuel ih =>
   intro listed a w r hu inv
   refine ⟨fun hr => full listed a w r (nilAll listed inv.size hr) inv, fun i hi => ?_⟩
   obtain ⟨h1, o, ho, hdeps⟩ := mem_ready.1 hi
   have hoi : all[i]? = some o := by simpa using ho
   have hil : i < all.length := (List.getElem?_eq_some_iff.1 hoi).1
   have hisz : i < listed.size := by rw [inv.size]; exact hil
   have hSi : listed.getD i false = false := by
    rw [Array.getD_eq_getD_getElem?] at h1 ⊢
    rw [Array.getElem?_eq_getElem hisz] at h1 ⊢
    exact h1
   obtain ⟨rc, hrc, hokd, hwt, hstep⟩ := hat i o hoi
   have hli : (logOf rs)[i]? = some (keysOf rc.eff, rc.rd) := by simp [logOf, hrc]
   have order : ∀ (j : Nat) (oj : Oper) (rj : Rec), all[j]? = some oj -> rs[j]? = some rj -> (i < j -> confl all o (keysOf rc.eff, rc.rd) oj (keysOf rj.eff, rj.rd) = true) -> (j < i -> confl all oj (keysOf rj.eff, rj.rd) o (keysOf rc.eff, rc.rd) = true) -> listed.getD j false = decide (j < i) := by
    intro j oj rj hj hrj c1 c2
    have hlj : (logOf rs)[j]? = some (keysOf rj.eff, rj.rd) := by simp [logOf, hrj]
    have hcl := masks_closed (ops := all) (Z := fun x => listed.getD x false = true) (fun x ox hx hz e he hb => inv.closed x ox hx hz e he hb) all [] (fun j => by simp) (fun i m h => by cases i <;> cases h)
    rcases Nat.lt_trichotomy j i with hji | hji | hji
    . rw [decide_eq_true hji]
      obtain ⟨m, hm, hb⟩ := regOk_pair hok hji hj hoi hlj hli (c2 hji)
      have hcl2 := masks_closed (ops := all) (Z := fun x => x = i \/ listed.getD x false = true) (fun x ox hx hz e he hbn => by
       rcases hz with rfl | hz
       . rw [hoi] at hx; injection hx with hx; subst hx
         exact .inr (hdeps e he hbn)
       . exact .inr (inv.closed x ox hx hz e he hbn)) all [] (fun j => by simp) (fun i m h => by cases i <;> cases h)
      rcases hcl2 i m hm (.inl rfl) j hb with h | h
      . omega
      . exact h
    . subst hji; rw [hSi]; simp
    . rw [decide_eq_false (by omega)]
      cases hlst : listed.getD j false with
      | false => rfl
      | true =>
        obtain ⟨m, hm, hb⟩ := regOk_pair hok hji hoi hj hli hlj (c1 hji)
        have := hcl j m hm hlst i hb
        rw [hSi] at this; cases this
   have cKey : ∀ {e : Hp} {k : Nat}, hasKey e k = true -> k ∈ keysOf e := by
    intro e k h
    obtain ⟨p, hp, hb⟩ := List.any_eq_true.1 h
    have := Nat.eq_of_beq_eq_true hb
    exact List.mem_map.2 ⟨p, hp, this⟩
   have frj : ∀ (j : Nat) (e : Fr) (t : Nat), (frEs all rs)[j]? = some e -> hasKey e t = true -> ∃ (oj : Oper) (rj : Rec), all[j]? = some oj /\ rs[j]? = some rj /\ oj.dst = some t /\ e = putD oj.dst rj.val := by
    intro j e t he hk
    simp only [frEs, List.getElem?_zipWith] at he
    cases ha : all[j]? with
    | none => rw [ha] at he; cases he
    | some oj =>
      cases hr' : rs[j]? with
      | none => rw [ha, hr'] at he; cases he
      | some rj =>
        rw [ha, hr'] at he
        injection he with he
        subst he
        refine ⟨oj, rj, rfl, rfl, ?_, rfl⟩
        cases hd : oj.dst with
        | none => rw [hd] at hk; cases hk
        | some u =>
          rw [hd] at hk
          simp only [putD, hasKey, List.any_cons, List.any_nil, Bool.or_false] at hk
          rw [Nat.eq_of_beq_eq_true hk]
   have hpj : ∀ (j : Nat) (e : Hp), (hpEs rs)[j]? = some e -> ∃ (oj : Oper) (rj : Rec), all[j]? = some oj /\ rs[j]? = some rj /\ e = rj.eff := by
    intro j e he
    simp only [hpEs, List.getElem?_map] at he
    cases hr' : rs[j]? with
    | none => rw [hr'] at he; cases he
    | some rj =>
      rw [hr'] at he
      injection he with he
      have : j < all.length := by rw [hlen]; exact (List.getElem?_eq_some_iff.1 hr').1
      exact ⟨all[j], rj, List.getElem?_eq_getElem this, rfl, he.symm⟩
   have hmeet : ∀ {a b : List Nat} {k : Nat}, k ∈ a -> k ∈ b -> meets a b = true := fun ha hb => List.any_eq_true.2 ⟨_, ha, memN_of hb⟩
   have frEq : ∀ t ∈ looks all o, fget (sel (fun _ => true) ((frEs all rs).take i) 0 fr0) t = fget (sel (fun i => listed.getD i false) (frEs all rs) 0 fr0) t := by
    intro t ht
    rw [<- sel_take]
    refine sel_congr _ _ _ _ _ _ _ _ rfl fun j e he hk => ?_
    obtain ⟨oj, rj, h1, h2, h3, _⟩ := frj j e t he hk
    rw [Nat.zero_add, Nat.zero_add]
    refine (order j oj rj h1 h2 (fun _ => ?_) (fun _ => ?_)).symm
    . simp [confl, dstIn, h3, memN_of ht]
    . simp [confl, dstIn, h3, memN_of ht]
   have hpEq : ∀ k ∈ rc.rd, hget (sel (fun _ => true) ((hpEs rs).take i) 0 H0) k = hget (sel (fun i => listed.getD i false) (hpEs rs) 0 H0) k := by
    intro k hk
    rw [<- sel_take]
    refine sel_congr _ _ _ _ _ _ _ _ rfl fun j e he hkk => ?_
    obtain ⟨oj, rj, h1, h2, rfl⟩ := hpj j e he
    rw [Nat.zero_add, Nat.zero_add]
    have hkk' := cKey hkk
    refine (order j oj rj h1 h2 (fun _ => ?_) (fun _ => ?_)).symm
    . simp [confl, hmeet hk hkk']
    . simp [confl, hmeet hkk' hk]
   have hAll : ALLN ∈ rc.rd -> ∀ j, j < all.length -> listed.getD j false = decide (j < i) := fun hA j hj => by
    have h1 : all[j]? = some all[j] := List.getElem?_eq_getElem hj
    have h2 : rs[j]? = some (rs[j]'(by rw [<- hlen]; exact hj)) := List.getElem?_eq_getElem _
    exact order j _ _ h1 h2 (fun _ => by simp [confl, memN_of hA]) (fun _ => by simp [confl, memN_of hA])
   have hpAll : ALLN ∈ rc.rd -> ∀ k, hget (sel (fun _ => true) ((hpEs rs).take i) 0 H0) k = hget (sel (fun i => listed.getD i false) (hpEs rs) 0 H0) k := by
    intro hA k
    rw [<- sel_take]
    refine sel_congr _ _ _ _ _ _ _ _ rfl fun j e he hkk => ?_
    obtain ⟨oj, rj, h1, h2, rfl⟩ := hpj j e he
    rw [Nat.zero_add, Nat.zero_add]
    exact (hAll hA j (List.getElem?_eq_some_iff.1 h1).1).symm
   have naAll : ALLN ∈ rc.rd -> ∀ k, nx + wd * i <= k -> r k = none /\ hget (sel (fun i => listed.getD i false) (hpEs rs) 0 H0) k = none := fun hA k hk => inv.names k (by omega) fun j hj => by
    have hjl : j < all.length := by
     rw [<- inv.size]
     rcases Nat.lt_or_ge j listed.size with h | h
     . exact h
     . rw [Array.getD_eq_getD_getElem?, Array.getElem?_eq_none h] at hj; cases hj
    rw [hAll hA j hjl] at hj
    have hji : j < i := of_decide_eq_true hj
    have := Nat.mul_le_mul_left wd hji
    rw [Nat.mul_succ] at this
    omega
   have hw2 : wants all o (sel (fun i => listed.getD i false) (frEs all rs) 0 fr0) = some rc.ex := by
    rw [<- hwt]
    unfold wants
    cases hgd : o.guard with
    | none => rfl
    | some gw =>
      obtain ⟨j, want⟩ := gw
      simp only
      cases hgt : guardT all j with
      | none => rfl
      | some t =>
        simp only
        rw [frEq t (by simp [looks, hgd, hgt])]
   have hwanted := wanted_of inv.fr hw2
   have frMore : ∀ t, fget (putD o.dst rc.val ++ sel (fun i => listed.getD i false) (frEs all rs) 0 fr0) t = fget (sel (fun x => (listed.setIfInBounds i true).getD x false) (frEs all rs) 0 fr0) t := by
    intro t
    have hE : (frEs all rs)[i]? = some (putD o.dst rc.val) := by simp [frEs, List.getElem?_zipWith, hoi, hrc]
    have := sel_more (d := FV.top) (fun i => listed.getD i false) (frEs all rs) 0 fr0 i (putD o.dst rc.val) t hE (by rw [Nat.zero_add]; exact hSi) (fun j e hij he hSj u hu => by
     rw [Nat.zero_add] at hSj
     cases hk : hasKey e u with
     | false => rfl
     | true =>
       obtain ⟨oj, rj, h1, h2, h3, _⟩ := frj j e u he hk
       have hdu : o.dst = some u := by
        cases hd : o.dst with
        | none => rw [hd] at hu; cases hu
        | some v =>
          rw [hd] at hu
          simp only [putD, hasKey, List.any_cons, List.any_nil, Bool.or_false] at hu
          rw [Nat.eq_of_beq_eq_true hu]
       have := order j oj rj h1 h2 (fun _ => by simp [confl, dstEq, hdu, h3]) (fun hji => by omega)
       rw [hSj, decide_eq_false (by omega)] at this
       cases this)
    rw [Nat.zero_add] at this
    show look FV.top _ t = look FV.top _ t
    rw [<- this]
    refine sel_congr _ _ _ _ _ _ _ _ rfl fun j e _ _ => ?_
    rw [Nat.zero_add, getD_set hisz]
   have hpMore : ∀ t, hget (rc.eff ++ sel (fun i => listed.getD i false) (hpEs rs) 0 H0) t = hget (sel (fun x => (listed.setIfInBounds i true).getD x false) (hpEs rs) 0 H0) t := by
    intro t
    have hE : (hpEs rs)[i]? = some rc.eff := by simp [hpEs, hrc]
    have := sel_more (d := none) (fun i => listed.getD i false) (hpEs rs) 0 H0 i rc.eff t hE (by rw [Nat.zero_add]; exact hSi) (fun j e hij he hSj u hu => by
     rw [Nat.zero_add] at hSj
     cases hk : hasKey e u with
     | false => rfl
     | true =>
       obtain ⟨oj, rj, h1, h2, rfl⟩ := hpj j e he
       have := order j oj rj h1 h2 (fun _ => by simp [confl, hmeet (cKey hu) (cKey hk)]) (fun hji => by omega)
       rw [hSj, decide_eq_false (by omega)] at this
       cases this)
    rw [Nat.zero_add] at this
    show look none _ t = look none _ t
    rw [<- this]
    refine sel_congr _ _ _ _ _ _ _ _ rfl fun j e _ _ => ?_
    rw [Nat.zero_add, getD_set hisz]
   have apart : ∀ j k, listed.getD j false = true -> nx + wd * i <= k -> k < nx + wd * i + wd -> ¬ (nx + wd * j <= k /\ k < nx + wd * j + wd) := fun j k hj h1 h2 h3 => by
    have hji : j ≠ i := fun h => by subst h; rw [hSi] at hj; cases hj
    rcases Nat.lt_or_ge j i with h | h
    . have := Nat.mul_le_mul_left wd h; rw [Nat.mul_succ] at this; omega
    . have := Nat.mul_le_mul_left wd (show i + 1 <= j by omega); rw [Nat.mul_add, Nat.mul_one] at this; omega
   have hfree : Free r (sel (fun i => listed.getD i false) (hpEs rs) 0 H0) (nx + wd * i) wd := fun k h1 h2 => inv.names k (by omega) fun j hj => apart j k hj h1 h2
   have hunl : unl (listed.setIfInBounds i true).toList = fuel := by
    have := unl_set listed.toList i (by
     have : listed[i]? = some false := by
      rw [Array.getD_eq_getD_getElem?] at hSi
      rw [Array.getElem?_eq_getElem hisz] at hSi ⊢
      simpa using hSi
     simpa using this)
    rw [Array.toList_setIfInBounds]
    omega
   have next : ∀ (v : Value) (w' : World) (r' : Ren), Ext r (wr r (sel (fun i => listed.getD i false) (hpEs rs) 0 H0)) w r' (wr r' (rc.eff ++ sel (fun i => listed.getD i false) (hpEs rs) 0 H0)) w' -> St cx r' (rc.eff ++ sel (fun i => listed.getD i false) (hpEs rs) 0 H0) w' ->
    (∀ k, k < nx + wd * i \/ nx + wd * i + wd <= k -> r' k = r k) -> (∀ k e, hget (rc.eff ++ sel (fun i => listed.getD i false) (hpEs rs) 0 H0) k = some e -> ((nx + wd * i <= k \/ ALLN ∈ rc.rd) /\ k < nx + wd * i + wd) \/ ∃ e', hget (sel (fun i => listed.getD i false) (hpEs rs) 0 H0) k = some e') -> rc.val.rel r' cx.X (wr r' (rc.eff ++ sel (fun i => listed.getD i false) (hpEs rs) 0 H0)) w' v -> wpAny P .any all.toArray Q fuel (listed.setIfInBounds i true) (a.put o.dst v) w' := by
    intro v w' r' hext hst hr' hnew hrel
    refine ih _ _ _ r' hunl ⟨by simp [inv.size], fun x ox hx hz e he hb => ?_, hst.congr hpMore, ?_, fun k hk hkn => ?_, by rw [put_tmps.1]; exact inv.tsz, by rw [put_tmps.2]; exact inv.defers, fun k hk => by rw [hr' k (.inl (by omega))]; exact inv.low k hk⟩
    . rw [getD_set hisz] at hz ⊢
      simp only [Bool.or_eq_true, beq_iff_eq] at hz ⊢
      rcases hz with rfl | hz
      . rw [hoi] at hx; injection hx with hx; subst hx
        exact .inr (hdeps e he hb)
      . exact .inr (inv.closed x ox hx hz e he hb)
    . exact (FrOk.put (inv.fr.ext hext) (by rw [inv.tsz]; exact hokd) hrel).congr hpMore frMore
    . have hki : ¬ (nx + wd * i <= k /\ k < nx + wd * i + wd) := hkn i (by rw [getD_set hisz]; simp)
      have hold := inv.names k hk fun j hj => hkn j (by rw [getD_set hisz, hj]; simp)
      rw [hr' k (by omega), <- hpMore k]
      refine ⟨hold.1, ?_⟩
      cases hh : hget (rc.eff ++ sel (fun i => listed.getD i false) (hpEs rs) 0 H0) k with
      | none => rfl
      | some e =>
        rcases hnew k e hh with ⟨h | h, hlt⟩ | ⟨e', h⟩
        . exact absurd ⟨h, hlt⟩ hki
        . have hd : (k - nx) / wd * wd <= k - nx := Nat.div_mul_le_self _ _
          have hm : k - nx < ((k - nx) / wd + 1) * wd := by
           rw [Nat.add_mul, Nat.one_mul]
           have := Nat.div_add_mod (k - nx) wd
           have h2 := Nat.mod_lt (k - nx) hwd
           rw [Nat.mul_comm] at this
           omega
          rw [Nat.add_mul, Nat.one_mul] at hm
          rw [Nat.mul_comm] at hd hm
          have hji : (k - nx) / wd <= i := by
           rcases Nat.lt_or_ge i ((k - nx) / wd) with h3 | h3
           . have := Nat.mul_le_mul_left wd h3
             rw [Nat.mul_succ] at this
             omega
           . exact h3
          refine absurd (⟨by omega, by omega⟩ : nx + wd * ((k - nx) / wd) <= k /\ k < nx + wd * ((k - nx) / wd) + wd) (hkn _ ?_)
          rw [getD_set hisz]
          rcases Nat.lt_or_eq_of_le hji with h3 | h3
          . rw [hAll h _ (by omega), decide_eq_true h3, Bool.or_true]
          . rw [h3]; simp
        . rw [hold.2] at h; cases h
   unfold wpOp
   simp only [ho, hwanted]
   cases hex : rc.ex with
   | true =>
     rw [hex] at hstep
     obtain ⟨sr, hs, hv, he, hrd⟩ := hstep
     have hs2 := stp_congr hs (fun t ht => frEq t (by simp [looks, ht])) (fun k hk => hpEq k (by rw [<- hrd]; exact hk)) (fun h => hpAll (by rw [<- hrd]; exact h))
     rw [if_pos rfl]
     refine .inl (stp_ok hT hs2 inv.st inv.fr hfree (fun h => naAll (by rw [<- hrd]; exact h)) hwd fun v w' hleft => ?_)
     obtain ⟨r', g1, g2, g3, g5, g4⟩ := hleft
     rw [he] at g1 g2 g4 g5
     rw [hv] at g4
     exact next v w' r' g1 g2 g3 (by rw [hrd] at g5; exact g5) g4
   | false =>
     rw [hex] at hstep
     obtain ⟨hv, he, hrd⟩ := hstep
     rw [if_neg (by simp)]
     refine next undef w r ?_ ?_ (fun _ _ => rfl) ?_ ?_
     . rw [he]; exact Ext.refl _ _ _
     . rw [he]; exact inv.st
     . rw [he]; exact fun k e h => .inr ⟨e, h⟩
     . rw [hv]; exact ⟨#[], rfl, rfl, fun i x u h => by cases h⟩
end
def isInsOp (t : TypeId) (m : Nat) : Op -> Bool
 | .insert t' (.tmp m') _ _ => Nat.beq t t' && Nat.beq m m'
 | _ => false
structure LitI where
 l : List Bool
 g : Nat -> CV
 vg : Nat -> CV
instance : Inhabited LitI := ⟨⟨[], fun _ => .top, fun _ => .top⟩⟩
structure Lit where
 t : TypeId
 m : Nat
 kt : TypeId
 ks : Nat
 vs : Nat
 ka : Bool
 va : Bool
def litI (T : Tys) (L : Lit) (fr : Fr) : Op -> Option LitI
 | .insert _ _ k x =>
   match keyOk T L.kt (some L.ka) (ev fr k), ev fr x with
   | some (kn, l, g), .e v =>
     match cellsOf v with
     | some (vn, vg) => bif Nat.beq kn L.ks && Nat.beq vn L.vs && (isAggV v == L.va) then some ⟨l, g, vg⟩ else none
     | none => none
   | _, _ => none
 | _ => none
def litC (ks : Nat) (I : LitI) (j : Nat) : CV := bif Nat.blt j ks then I.g j else I.vg (j - ks)
def litOf (T : Tys) : List Oper -> Option Lit
 | ⟨some m, .makeMap t none, _, _, _, _⟩ :: _ =>
   match T t with
   | some ⟨.map kt _ ks vs (some ka) (some va), _, _, _, _⟩ => some ⟨t, m, kt, ks, vs, ka, va⟩
   | _ => none
 | _ => none
def itAt (T : Tys) (all : List Oper) (L : Lit) (fr : Fr) (i : Nat) : LitI := ((all[i]?).bind fun o => litI T L fr o.op).getD default
def isInsAt (all : List Oper) (L : Lit) (i : Nat) : Bool :=
 match all[i]? with
 | some o => isInsOp L.t L.m o.op
 | none => false
def insIdx (all : List Oper) (L : Lit) : List Nat := (List.range all.length).filter (isInsAt all L)
def entL (T : Tys) (all : List Oper) (L : Lit) (fr : Fr) (Lst : List Nat) : Ent := ⟨mapCode L.ks L.ka L.va, Lst.length, L.ks + L.vs, false, fun k => litC L.ks (itAt T all L fr (Lst.getD k 0))⟩
def litEnt (T : Tys) (all : List Oper) (L : Lit) (fr : Fr) : Ent := entL T all L fr (insIdx all L)
def conflL (all : List Oper) (L : Lit) (o : Oper) (l : List Nat × List Nat) (o' : Oper) (l' : List Nat × List Nat) : Bool :=
 dstIn (looks all o) o'.dst || dstIn (looks all o') o.dst || dstEq o.dst o'.dst || ((meets l.1 l'.1 || meets l.1 l'.2 || meets l.2 l'.1) && !(isInsOp L.t L.m o.op && isInsOp L.t L.m o'.op))
def regOkL (all : List Oper) (L : Lit) (log : Log) : Bool :=
 let ms := masks all []
 (List.range all.length).all fun j =>
   match all[j]?, log[j]?, ms[j]? with
   | some oj, some lj, some m =>
     (oj.after.toList.all fun e => !Region.binds .any e || Nat.blt e.on j) &&
     (List.range j).all fun i =>
       match all[i]?, log[i]? with
       | some oi, some li => !conflL all L oi li oj lj || m.testBit i
       | _, _ => false
   | _, _, _ => false
def logL (all : List Oper) (L : Lit) (log : Log) (nx : Nat) : Bool :=
 (List.range all.length).all fun i =>
   match all[i]?, log[i]? with
   | some o, some l => o.guard.isNone && bif Nat.beq i 0 then true else bif isInsOp L.t L.m o.op then true else l.1.isEmpty && l.2.isEmpty
   | _, _ => false
def litPairs (T : Tys) (all : List Oper) (L : Lit) (fr : Fr) : Bool :=
 (insIdx all L).all fun i => (match all[i]? with
   | some o => (litI T L fr o.op).isSome && (List.range all.length).all fun j => Nat.blt j i || !(match all[j]? with | some o' => dstIn (looks all o) o'.dst | none => true)
   | none => false) && (insIdx all L).all fun k => Nat.beq i k || (okFrom (itAt T all L fr i).g (litC L.ks (itAt T all L fr k)) (itAt T all L fr i).l 0 && !eqFrom (itAt T all L fr i).g (litC L.ks (itAt T all L fr k)) L.ks 0)
def litOk (T : Tys) (all : List Oper) (L : Lit) (fr : Fr) (log : Log) (nx : Nat) : Bool := regOkL all L log && logL all L log nx && litPairs T all L fr && (match fget fr L.m with | .e (.c (.mp q)) => Nat.beq q nx | _ => false) && !Nat.beq nx ALLN
theorem regOkL_edge {all : List Oper} {L : Lit} {log : Log} (h : regOkL all L log = true) {j : Nat} {oj : Oper} (hj : all[j]? = some oj) : ∀ e ∈ oj.after, Region.binds .any e = true -> e.on < j := by
 have hlt : j < all.length := (List.getElem?_eq_some_iff.1 hj).1
 have := List.all_eq_true.1 h j (List.mem_range.2 hlt)
 simp only [hj] at this
 split at this
 . rename_i o l m h1 h2 h3
   injection h1 with h1
   subst h1
   simp only [Bool.and_eq_true] at this
   intro e he hb
   have := List.all_eq_true.1 this.1 e (by simpa using he)
   rw [hb] at this
   simpa using this
 . cases this
theorem regOkL_pair {all : List Oper} {L : Lit} {log : Log} (h : regOkL all L log = true) {i j : Nat} {oi oj : Oper} {li lj : List Nat × List Nat} (hij : i < j) (hi : all[i]? = some oi) (hj : all[j]? = some oj) (hli : log[i]? = some li) (hlj : log[j]? = some lj) (hc : conflL all L oi li oj lj = true) :
 ∃ m, (masks all [])[j]? = some m /\ m.testBit i = true := by
 have hlt : j < all.length := (List.getElem?_eq_some_iff.1 hj).1
 have := List.all_eq_true.1 h j (List.mem_range.2 hlt)
 simp only [hj, hlj] at this
 split at this
 . rename_i o l m h1 h2 h3
   injection h1 with h1
   injection h2 with h2
   subst h1 h2
   simp only [Bool.and_eq_true] at this
   have := List.all_eq_true.1 this.2 i (List.mem_range.2 hij)
   simp only [hi, hli, hc] at this
   exact ⟨m, h3, by simpa using this⟩
 . cases this
theorem mem_ins {all : List Oper} {L : Lit} {i : Nat} : i ∈ insIdx all L ↔ isInsAt all L i = true := by
 unfold insIdx
 rw [List.mem_filter, List.mem_range]
 constructor
 . exact fun h => h.2
 . intro h
   refine ⟨?_, h⟩
   unfold isInsAt at h
   cases ha : all[i]? with
   | none => rw [ha] at h; cases h
   | some o => exact (List.getElem?_eq_some_iff.1 ha).1
theorem nod_ins {all : List Oper} {L : Lit} : (insIdx all L).Nodup := List.Pairwise.filter _ List.nodup_range
section
variable {P : Program} {cx : Cx} {T : Tys} {wd nt : Nat} {d0 : List Deferred}
theorem wr_swap {r : Ren} {H : Hp} {nm : Nat} {e e' : Ent} (he : hget H nm = some e) : wr r ((nm, some e') :: H) = wr r H := by
 funext b
 apply propext
 have hl0 : hget ((nm, some e') :: H) nm = some e' := look_cons_eq _ _ _ _
 have hl : ∀ k, k ≠ nm -> hget ((nm, some e') :: H) k = hget H k := fun k hk => look_cons_ne _ _ _ hk
 constructor
 . rintro ⟨k, e1, x, h1, h2, h3⟩
   by_cases hk : k = nm
   . subst hk; exact ⟨k, e, x, he, h2, h3⟩
   . rw [hl k hk] at h1; exact ⟨k, e1, x, h1, h2, h3⟩
 . rintro ⟨k, e1, x, h1, h2, h3⟩
   by_cases hk : k = nm
   . subst hk; exact ⟨k, e', x, hl0, h2, h3⟩
   . exact ⟨k, e1, x, by rw [hl k hk]; exact h1, h2, h3⟩
theorem St.swap {r : Ren} {H : Hp} {w : World} (s : St cx r H w) {nm : Nat} {e e' : Ent} (he : hget H nm = some e) (h : EntIn r cx.X (wr r H) w e (r nm) w.heap -> EntIn r cx.X (wr r H) w e' (r nm) w.heap) : St cx r ((nm, some e') :: H) w := by
 have hl0 : hget ((nm, some e') :: H) nm = some e' := look_cons_eq _ _ _ _
 have hl : ∀ k, k ≠ nm -> hget ((nm, some e') :: H) k = hget H k := fun k hk => look_cons_ne _ _ _ hk
 have live : ∀ k e1, hget ((nm, some e') :: H) k = some e1 -> ∃ e2, hget H k = some e2 := fun k e1 hk => by
  by_cases hkn : k = nm
  . subst hkn; exact ⟨e, he⟩
  . rw [hl k hkn] at hk; exact ⟨e1, hk⟩
 refine ⟨s.os, s.tape, s.output, s.size, s.kept, s.xlt, s.dom, fun k e1 x h1 h2 => ?_, fun n m e1 e2 x y h1 h2 => ?_, s.pin, fun k e1 hk => ?_⟩
 . obtain ⟨e2, h1⟩ := live k e1 h1; exact s.ow k e2 x h1 h2
 . obtain ⟨e1', h1⟩ := live n e1 h1
   obtain ⟨e2', h2⟩ := live m e2 h2
   exact s.inj n m e1' e2' x y h1 h2
 . rw [wr_swap he]
   by_cases hkn : k = nm
   . subst hkn
     rw [hl0] at hk; injection hk with hk; subst hk
     exact h (s.blk k e he)
   . rw [hl k hkn] at hk
     exact s.blk k e1 hk
theorem entIn_perm {r : Ren} {X W : Nat -> Prop} {w : World} {e e' : Ent} {x : Bi} {hp : Array Obj} (hz : x.sz = 0) (h0 : 0 < e.sz) (ht : e'.t = e.t) (hn : e'.n = e.n) (hs : e'.sz = e.sz) (hv : e'.v = e.v) {σ τ : Nat -> Nat} (s1 : ∀ k, k < e.n -> σ k < e.n /\ τ (σ k) = k) (s2 : ∀ k, k < e.n -> τ k < e.n /\ σ (τ k) = k) (hf : ∀ k, k < e.n -> e'.f (σ k) = e.f k)
 (h : EntIn r X W w e (some x) hp) : EntIn r X W w e' (some x) hp := by
 obtain ⟨t, n, sz, v, f⟩ := e
 obtain ⟨t', n', sz', v', f'⟩ := e'
 simp only at ht hn hs hv hf s1 s2 h0
 subst ht hn hs hv
 obtain ⟨h1, h2, h3⟩ := h
 refine ⟨h1, h2, ?_⟩
 rcases h3 with ⟨h3, _⟩ | ⟨y, cs, g1, g2, _⟩ | ⟨hfit, y, es, clk, g1, g2, g3, g4, g5, π, ρ, p1, p2, g6⟩
 . cases h3
 . injection g1 with g1; subst g1
   have : x.sz = sz' := g2
   omega
 . refine .inr (.inr ⟨hfit, y, es, clk, g1, g2, g3, g4, g5, fun i => σ (π i), fun k => ρ (τ k), fun i hi => ?_, fun k hk => ?_, fun i m hm => ?_⟩)
   . obtain ⟨a1, a2⟩ := p1 i hi
     obtain ⟨b1, b2⟩ := s1 _ a1
     exact ⟨b1, by dsimp only; rw [b2, a2]⟩
   . obtain ⟨a1, a2⟩ := s2 k hk
     obtain ⟨b1, b2⟩ := p2 _ a1
     exact ⟨b1, by dsimp only; rw [b2, a2]⟩
   . have hi : i < n' := by
      have := (Array.getElem?_eq_some_iff.1 hm).1
      have g4' : es.size = n' := g4
      omega
     obtain ⟨a1, a2⟩ := p1 i hi
     have e1 := hf _ a1
     dsimp only
     rw [e1]
     exact g6 i m hm
def HLs (T : Tys) (all : List Oper) (L : Lit) (fr : Fr) (nx : Nat) (H0 : Hp) (b : Bool) (Lst : List Nat) : Hp := bif b then (nx, some (entL T all L fr Lst)) :: H0 else H0
theorem mapSet_lit {L : Lit} {fr : Fr} {H : Hp} {nx et n z : Nat} {a1 : List CV} {a2 : List Bool} {a3 : Nat} {f : Nat -> Nat -> CV} (hTL : T L.t = some ⟨.map L.kt et L.ks L.vs (some L.ka) (some L.va), z, a1, a2, a3⟩) (hH : hget H nx = some ⟨mapCode L.ks L.ka L.va, n, L.ks + L.vs, false, f⟩) {t' : TypeId} {m' k x : Operand} {I : LitI} (hI : litI T L fr (.insert t' m' k x) = some I) :
 mapSet T H L.t (.e (.c (.mp nx))) (ev fr k) (ev fr x) = some ⟨some (∀ i, i < n -> okFrom I.g (f i) I.l 0 = true), .top, [(nx, some ⟨mapCode L.ks L.ka L.va, bif Nat.blt (findI (fun i => eqFrom I.g (f i) L.ks 0) n 0) n then n else findI (fun i => eqFrom I.g (f i) L.ks 0) n 0 + 1, L.ks + L.vs, false,
  fun i j => selC (Nat.beq i (findI (fun i => eqFrom I.g (f i) L.ks 0) n 0)) (litC L.ks I j) (f i j)⟩)], [nx]⟩ := by
 unfold litI at hI
 dsimp only at hI
 split at hI
 . rename_i kn l g v hk hv
   split at hI
   . rename_i vn vg hc
     obtain ⟨hb, hI⟩ := cond_some' hI
     subst hI
     simp only [Bool.and_eq_true] at hb
     obtain ⟨⟨b1, b2⟩, b3⟩ := hb
     have b1 := Nat.eq_of_beq_eq_true b1
     have b2 := Nat.eq_of_beq_eq_true b2
     subst b1 b2
     unfold mapSet
     rw [hTL, hv]
     dsimp only
     rw [hH, hk, hc]
     dsimp only
     rw [b3]
     simp only [Option.getD_some, Nat.beq_refl, Bool.true_and, cond_true]
     rfl
   . cases hI
 . cases hI
theorem mapSet_val {H : Hp} {t : TypeId} {x k v : FV} {sr : SR} (h : mapSet T H t x k v = some sr) : sr.val = .top := by
 unfold mapSet at h
 split at h
 . split at h
   . obtain ⟨_, h⟩ := cond_some' h
     rw [<- h]
   . cases h
 . cases h
theorem look_ins {all : List Oper} {t : TypeId} {m : Nat} {o : Oper} (h : isInsOp t m o.op = true) : m ∈ looks all o /\ ∃ k x, o.op = .insert t (.tmp m) k x := by
 unfold isInsOp at h
 split at h
 . rename_i t' m' k x hop
   rw [Bool.and_eq_true] at h
   have h1 := Nat.eq_of_beq_eq_true h.1
   have h2 := Nat.eq_of_beq_eq_true h.2
   subst h1 h2
   refine ⟨List.mem_append_left _ (List.mem_filterMap.2 ⟨.tmp m, by rw [hop]; simp [Op.operands], rfl⟩), k, x, hop⟩
 . cases h
structure InvL (T : Tys) (cx : Cx) (all : List Oper) (rs : List Rec) (L : Lit) (frF : Fr) (fr0 : Fr) (H0 : Hp) (nx wd nt : Nat) (d0 : List Deferred) (fx : Ren) (listed : Array Bool) (Lst : List Nat) (a : Act) (w : World) (r : Ren) : Prop where
 size : listed.size = all.length
 closed : ∀ i o, all[i]? = some o -> listed.getD i false = true -> ∀ e ∈ o.after, Region.binds .any e = true -> listed.getD e.on false = true
 st : St cx r (HLs T all L frF nx H0 (listed.getD 0 false) Lst) w
 fr : FrOk cx r (HLs T all L frF nx H0 (listed.getD 0 false) Lst) w (sel (fun i => listed.getD i false) (frEs all rs) 0 fr0) a.tmps
 names : ∀ k, nx <= k -> (∀ i, listed.getD i false = true -> ¬ (nx + wd * i <= k /\ k < nx + wd * i + wd)) -> r k = none /\ hget (HLs T all L frF nx H0 (listed.getD 0 false) Lst) k = none
 tsz : a.tmps.size = nt
 defers : a.defers = d0
 low : ∀ k, k < nx -> r k = fx k
 mp : listed.getD 0 false = true -> ∃ x, r nx = some x /\ x.sz = 0
 nod : Lst.Nodup
 mem : ∀ i, i ∈ Lst ↔ (listed.getD i false = true /\ isInsAt all L i = true)
theorem lit_order (hT : TysOk P T) {all : List Oper} {rs : List Rec} {fr0 : Fr} {H0 : Hp} {nx : Nat} (hwd : 0 < wd) (hg : Good P T wd nt all all rs fr0 H0 nx) {L : Lit} (hL : litOf T all = some L) (hokA : litOk T all L (sel (fun _ => true) (frEs all rs) 0 fr0) (logOf rs) nx = true) {fx : Ren}
 {Q : Exit -> Act -> World -> Prop}
 (hQ : ∀ a w r, St cx r ((nx, some (litEnt T all L (sel (fun _ => true) (frEs all rs) 0 fr0))) :: H0) w -> FrOk cx r ((nx, some (litEnt T all L (sel (fun _ => true) (frEs all rs) 0 fr0))) :: H0) w (sel (fun _ => true) (frEs all rs) 0 fr0) a.tmps -> (∀ k, nx + wd * all.length <= k -> r k = none /\ hget ((nx, some (litEnt T all L (sel (fun _ => true) (frEs all rs) 0 fr0))) :: H0) k = none) -> a.tmps.size = nt -> a.defers = d0 -> (∀ k, k < nx -> r k = fx k) -> Q .normal a w) :
 ∀ (fuel : Nat) (listed : Array Bool) (Lst : List Nat) (a : Act) (w : World) (r : Ren), unl listed.toList = fuel -> InvL T cx all rs L (sel (fun _ => true) (frEs all rs) 0 fr0) fr0 H0 nx wd nt d0 fx listed Lst a w r -> wpAny P .any all.toArray Q fuel listed a w := by
 obtain ⟨hlen, hat⟩ := Good.at _ _ _ _ _ hg
 unfold litOk at hokA
 simp only [Bool.and_eq_true] at hokA
 obtain ⟨⟨⟨⟨hok, hlg⟩, hprs⟩, hmp0⟩, hnA0⟩ := hokA
 have hnA : nx ≠ ALLN := fun h => by
  rw [h] at hnA0
  simp at hnA0
 obtain ⟨frF, hfrF⟩ : ∃ frF, sel (fun _ => true) (frEs all rs) 0 fr0 = frF := ⟨_, rfl⟩
 rw [hfrF] at hprs hQ hmp0 ⊢
 have hmap : fget frF L.m = .e (.c (.mp nx)) := by
  split at hmp0
  . rename_i q hq
    rw [hq, Nat.eq_of_beq_eq_true hmp0]
  . cases hmp0
 obtain ⟨o0, all', et, z, a1, a2, a3, hall0, hop0, hdst0, hTL⟩ : ∃ o0 all' et z a1 a2 a3, all = o0 :: all' /\ o0.op = .makeMap L.t none /\ o0.dst = some L.m /\ T L.t = some ⟨.map L.kt et L.ks L.vs (some L.ka) (some L.va), z, a1, a2, a3⟩ := by
  unfold litOf at hL
  split at hL
  . split at hL
    . rename_i hT'
      injection hL with hL
      subst hL
      exact ⟨_, _, _, _, _, _, _, rfl, rfl, rfl, hT'⟩
    . cases hL
  . cases hL
 have h0 : all[0]? = some o0 := by rw [hall0]; rfl
 have hn0 : 0 < all.length := by rw [hall0]; simp
 have hno0 : isInsAt all L 0 = false := by
  unfold isInsAt
  rw [h0]
  dsimp only
  rw [hop0]; rfl
 have shape : ∀ (i : Nat) o rc, all[i]? = some o -> rs[i]? = some rc -> o.guard = none /\ (i ≠ 0 -> isInsAt all L i = false -> rc.eff = [] /\ rc.rd = []) := by
  intro i o rc ho hrc
  have hlt : i < all.length := (List.getElem?_eq_some_iff.1 ho).1
  have := List.all_eq_true.1 hlg i (List.mem_range.2 hlt)
  have hli : (logOf rs)[i]? = some (keysOf rc.eff, rc.rd) := by simp [logOf, hrc]
  simp only [ho, hli, Bool.and_eq_true] at this
  obtain ⟨c1, c2⟩ := this
  refine ⟨by simpa using c1, fun hi0 hins => ?_⟩
  have e1 : Nat.beq i 0 = false := by
   cases hb : Nat.beq i 0 with
   | false => rfl
   | true => exact absurd (Nat.eq_of_beq_eq_true hb) hi0
  have e2 : isInsOp L.t L.m o.op = false := by
   unfold isInsAt at hins
   rw [ho] at hins
   exact hins
  rw [e1, e2] at c2
  simp only [cond_false, Bool.and_eq_true, List.isEmpty_iff] at c2
  refine ⟨?_, c2.2⟩
  have := c2.1
  unfold keysOf at this
  exact List.map_eq_nil_iff.1 this
 have insP : ∀ i, isInsAt all L i = true -> ∃ o I, all[i]? = some o /\ isInsOp L.t L.m o.op = true /\ litI T L frF o.op = some I /\ itAt T all L frF i = I /\ (∀ j o', i <= j -> all[j]? = some o' -> dstIn (looks all o) o'.dst = false) /\
  ∀ k, isInsAt all L k = true -> i ≠ k -> okFrom I.g (litC L.ks (itAt T all L frF k)) I.l 0 = true /\ eqFrom I.g (litC L.ks (itAt T all L frF k)) L.ks 0 = false := by
  intro i hi
  have h1 := List.all_eq_true.1 hprs i (mem_ins.2 hi)
  unfold isInsAt at hi
  cases ho : all[i]? with
  | none => rw [ho] at hi; cases hi
  | some o =>
    rw [ho] at hi
    rw [ho] at h1
    simp only [Bool.and_eq_true] at h1
    obtain ⟨⟨c1, c2⟩, c3⟩ := h1
    obtain ⟨I, hI⟩ := Option.isSome_iff_exists.1 c1
    have hit : itAt T all L frF i = I := by
     unfold itAt
     rw [ho, Option.bind_some, hI]; rfl
    refine ⟨o, I, rfl, hi, hI, hit, fun j o' hij ho' => ?_, fun k hk hne => ?_⟩
    . have := List.all_eq_true.1 c2 j (List.mem_range.2 (List.getElem?_eq_some_iff.1 ho').1)
      simp only [Bool.or_eq_true, Bool.not_eq_true'] at this
      rcases this with h | h
      . have := Nat.le_of_ble_eq_true h; omega
      . rw [ho'] at h; exact h
    . have := List.all_eq_true.1 c3 k (mem_ins.2 hk)
      rw [hit] at this
      simp only [Bool.or_eq_true, Bool.and_eq_true, Bool.not_eq_true'] at this
      rcases this with h | h
      . exact absurd (Nat.eq_of_beq_eq_true h) hne
      . exact h
 have full : ∀ (listed : Array Bool) (Lst : List Nat) (a : Act) (w : World) (r : Ren), (∀ i, i < all.length -> listed.getD i false = true) -> InvL T cx all rs L frF fr0 H0 nx wd nt d0 fx listed Lst a w r -> Q .normal a w := by
  intro listed Lst a w r hall inv
  have l0 := hall 0 hn0
  have e1 : ∀ t, fget (sel (fun i => listed.getD i false) (frEs all rs) 0 fr0) t = fget frF t := fun t => by
   rw [<- hfrF]
   exact sel_congr _ _ _ _ _ _ _ _ rfl fun j e he _ => by
    rw [Nat.zero_add]
    have : j < (frEs all rs).length := (List.getElem?_eq_some_iff.1 he).1
    exact hall j (by simp [frEs] at this; omega)
  have hmem : ∀ i, i ∈ Lst ↔ i ∈ insIdx all L := fun i => by
   rw [inv.mem, mem_ins]
   constructor
   . exact fun h => h.2
   . intro h
     obtain ⟨o, _, ho, _⟩ := insP i h
     exact ⟨hall i (List.getElem?_eq_some_iff.1 ho).1, h⟩
  have hln : Lst.length = (insIdx all L).length := Nat.le_antisymm (inv.nod.length_le_of_subset fun i hi => (hmem i).1 hi) (nod_ins.length_le_of_subset fun i hi => (hmem i).2 hi)
  have hst := inv.st
  have hfr := inv.fr
  have hnm := inv.names
  rw [l0] at hst hfr hnm
  have eH : HLs T all L frF nx H0 true Lst = (nx, some (entL T all L frF Lst)) :: H0 := rfl
  rw [eH] at hst hfr hnm
  obtain ⟨x, hx, hz⟩ := inv.mp l0
  have hget0 : hget ((nx, some (entL T all L frF Lst)) :: H0) nx = some (entL T all L frF Lst) := look_cons_eq _ _ _ _
  have idx : ∀ (A B : List Nat), A.Nodup -> B.Nodup -> (∀ i, i ∈ A ↔ i ∈ B) -> ∀ k, k < A.length -> B.idxOf (A.getD k 0) < B.length /\ A.idxOf (B.getD (B.idxOf (A.getD k 0)) 0) = k /\ B.getD (B.idxOf (A.getD k 0)) 0 = A.getD k 0 := fun A B hA hB hAB k hk => by
   have g1 : A.getD k 0 = A[k] := by rw [List.getD_eq_getElem?_getD, List.getElem?_eq_getElem hk]; rfl
   have m1 : A[k] ∈ B := (hAB _).1 (List.getElem_mem hk)
   have m2 := List.idxOf_lt_length_of_mem m1
   have g2 : B.getD (B.idxOf A[k]) 0 = A[k] := by
    rw [List.getD_eq_getElem?_getD, List.getElem?_eq_getElem m2]
    exact List.getElem_idxOf m2
   rw [g1]
   exact ⟨m2, by rw [g2]; exact hA.idxOf_getElem k hk, g2⟩
  have hs2 := hst.swap (e' := litEnt T all L frF) hget0 fun h => by
   rw [hx] at h ⊢
   refine entIn_perm (σ := fun k => (insIdx all L).idxOf (Lst.getD k 0)) (τ := fun k => Lst.idxOf ((insIdx all L).getD k 0)) hz h.1 rfl hln.symm rfl rfl (fun k hk => ?_) (fun k hk => ?_) (fun k hk => ?_) h
   . obtain ⟨q1, q2, _⟩ := idx Lst _ inv.nod nod_ins hmem k hk
     exact ⟨by show _ < Lst.length; rw [hln]; exact q1, q2⟩
   . have hk : k < Lst.length := hk
     obtain ⟨q1, q2, _⟩ := idx _ Lst nod_ins inv.nod (fun i => (hmem i).symm) k (by rw [<- hln]; exact hk)
     exact ⟨q1, q2⟩
   . obtain ⟨_, _, q3⟩ := idx Lst _ inv.nod nod_ins hmem k hk
     show litC L.ks (itAt T all L frF ((insIdx all L).getD ((insIdx all L).idxOf (Lst.getD k 0)) 0)) = litC L.ks (itAt T all L frF (Lst.getD k 0))
     rw [q3]
  have e2 : ∀ k, hget ((nx, some (litEnt T all L frF)) :: (nx, some (entL T all L frF Lst)) :: H0) k = hget ((nx, some (litEnt T all L frF)) :: H0) k := fun k => by
   by_cases hk : k = nx
   . subst hk; exact (look_cons_eq _ _ _ _).trans (look_cons_eq _ _ _ _).symm
   . exact (look_cons_ne _ _ _ hk).trans ((look_cons_ne _ _ _ hk).trans (look_cons_ne _ _ _ hk).symm)
  have hf2 : FrOk cx r ((nx, some (litEnt T all L frF)) :: (nx, some (entL T all L frF Lst)) :: H0) w frF a.tmps := fun t => by
   rw [wr_swap hget0, <- e1 t]; exact hfr t
  refine hQ a w r (hs2.congr e2) (hf2.congr e2 fun _ => rfl) (fun k hk => ?_) inv.tsz inv.defers inv.low
  have := hnm k (by omega) fun i hi => by
   have : i < listed.size := by
    rcases Nat.lt_or_ge i listed.size with h | h
    . exact h
    . rw [Array.getD_eq_getD_getElem?, Array.getElem?_eq_none h] at hi; cases hi
   rw [inv.size] at this
   have h9 : wd * (i + 1) <= wd * all.length := Nat.mul_le_mul_left _ this
   rw [Nat.mul_add, Nat.mul_one] at h9
   omega
  refine ⟨this.1, ?_⟩
  have hkn : k ≠ nx := fun h => by
   subst h
   rw [hget0] at this
   cases this.2
  rw [<- this.2]
  exact (look_cons_ne _ _ _ hkn).trans (look_cons_ne _ _ _ hkn).symm
 have nilAll : ∀ (listed : Array Bool), listed.size = all.length -> Region.ready .any all.toArray listed = [] -> ∀ i, i < all.length -> listed.getD i false = true := by
  intro listed hs hr i
  induction i using Nat.strongRecOn with
  | _ i ih =>
    intro hi
    cases hb : listed.getD i false with
    | true => rfl
    | false =>
      have ho : all[i]? = some all[i] := List.getElem?_eq_getElem hi
      have : i ∈ Region.ready .any all.toArray listed := mem_ready.2 ⟨by
       rw [Array.getD_eq_getD_getElem?] at hb ⊢
       rw [Array.getElem?_eq_getElem (by omega)] at hb ⊢
       exact hb, all[i], by simp [hi], fun e he hbn => by
        have hlt := regOkL_edge hok ho e he hbn
        exact ih e.on hlt (by omega)⟩
      rw [hr] at this
      cases this
 intro fuel
 induction fuel with
 | zero =>
   intro listed Lst a w r hu inv
   have hall : ∀ i, i < all.length -> listed.getD i false = true := fun i hi => by
    have := unl_zero _ hu i (by simpa [inv.size] using hi)
    have h2 : listed[i]? = some true := by simpa using this
    rw [Array.getD_eq_getD_getElem?, h2]; rfl
   refine ⟨?_, full listed Lst a w r hall inv⟩
   rw [List.eq_nil_iff_forall_not_mem]
   intro i hi
   obtain ⟨h1, o, ho, _⟩ := mem_ready.1 hi
   have hil : i < all.length := by simpa using (Array.getElem?_eq_some_iff.1 ho).1
   have := hall i hil
   rw [Array.getD_eq_getD_getElem?] at h1 this
   rw [Array.getElem?_eq_getElem (by rw [inv.size]; exact hil)] at h1 this
   simp only [Option.getD_some] at h1 this
   rw [h1] at this
   cases this
 | succ fuel ih =>
   intro listed Lst a w r hu inv
   refine ⟨fun hr => full listed Lst a w r (nilAll listed inv.size hr) inv, fun i hi => ?_⟩
   obtain ⟨h1, o, ho, hdeps⟩ := mem_ready.1 hi
   have hoi : all[i]? = some o := by simpa using ho
   have hil : i < all.length := (List.getElem?_eq_some_iff.1 hoi).1
   have hisz : i < listed.size := by rw [inv.size]; exact hil
   have hSi : listed.getD i false = false := by
    rw [Array.getD_eq_getD_getElem?] at h1 ⊢
    rw [Array.getElem?_eq_getElem hisz] at h1 ⊢
    exact h1
   obtain ⟨rc, hrc, hokd, hwt, hstep⟩ := hat i o hoi
   have hli : (logOf rs)[i]? = some (keysOf rc.eff, rc.rd) := by simp [logOf, hrc]
   have order : ∀ (j : Nat) (oj : Oper) (rj : Rec), all[j]? = some oj -> rs[j]? = some rj -> (i < j -> conflL all L o (keysOf rc.eff, rc.rd) oj (keysOf rj.eff, rj.rd) = true) -> (j < i -> conflL all L oj (keysOf rj.eff, rj.rd) o (keysOf rc.eff, rc.rd) = true) -> listed.getD j false = decide (j < i) := by
    intro j oj rj hj hrj c1 c2
    have hlj : (logOf rs)[j]? = some (keysOf rj.eff, rj.rd) := by simp [logOf, hrj]
    have hcl := masks_closed (ops := all) (Z := fun x => listed.getD x false = true) (fun x ox hx hz e he hb => inv.closed x ox hx hz e he hb) all [] (fun j => by simp) (fun i m h => by cases i <;> cases h)
    rcases Nat.lt_trichotomy j i with hji | hji | hji
    . rw [decide_eq_true hji]
      obtain ⟨m, hm, hb⟩ := regOkL_pair hok hji hj hoi hlj hli (c2 hji)
      have hcl2 := masks_closed (ops := all) (Z := fun x => x = i \/ listed.getD x false = true) (fun x ox hx hz e he hbn => by
       rcases hz with rfl | hz
       . rw [hoi] at hx; injection hx with hx; subst hx
         exact .inr (hdeps e he hbn)
       . exact .inr (inv.closed x ox hx hz e he hbn)) all [] (fun j => by simp) (fun i m h => by cases i <;> cases h)
      rcases hcl2 i m hm (.inl rfl) j hb with h | h
      . omega
      . exact h
    . subst hji; rw [hSi]; simp
    . rw [decide_eq_false (by omega)]
      cases hlst : listed.getD j false with
      | false => rfl
      | true =>
        obtain ⟨m, hm, hb⟩ := regOkL_pair hok hji hoi hj hli hlj (c1 hji)
        have := hcl j m hm hlst i hb
        rw [hSi] at this; cases this
   have cKey : ∀ {e : Hp} {k : Nat}, hasKey e k = true -> k ∈ keysOf e := by
    intro e k h
    obtain ⟨p, hp, hb⟩ := List.any_eq_true.1 h
    have := Nat.eq_of_beq_eq_true hb
    exact List.mem_map.2 ⟨p, hp, this⟩
   have frj : ∀ (j : Nat) (e : Fr) (t : Nat), (frEs all rs)[j]? = some e -> hasKey e t = true -> ∃ (oj : Oper) (rj : Rec), all[j]? = some oj /\ rs[j]? = some rj /\ oj.dst = some t /\ e = putD oj.dst rj.val := by
    intro j e t he hk
    simp only [frEs, List.getElem?_zipWith] at he
    cases ha : all[j]? with
    | none => rw [ha] at he; cases he
    | some oj =>
      cases hr' : rs[j]? with
      | none => rw [ha, hr'] at he; cases he
      | some rj =>
        rw [ha, hr'] at he
        injection he with he
        subst he
        refine ⟨oj, rj, rfl, rfl, ?_, rfl⟩
        cases hd : oj.dst with
        | none => rw [hd] at hk; cases hk
        | some u =>
          rw [hd] at hk
          simp only [putD, hasKey, List.any_cons, List.any_nil, Bool.or_false] at hk
          rw [Nat.eq_of_beq_eq_true hk]
   have frEq : ∀ t ∈ looks all o, fget (sel (fun _ => true) ((frEs all rs).take i) 0 fr0) t = fget (sel (fun i => listed.getD i false) (frEs all rs) 0 fr0) t := by
    intro t ht
    rw [<- sel_take]
    refine sel_congr _ _ _ _ _ _ _ _ rfl fun j e he hk => ?_
    obtain ⟨oj, rj, h1, h2, h3, _⟩ := frj j e t he hk
    rw [Nat.zero_add, Nat.zero_add]
    refine (order j oj rj h1 h2 (fun _ => ?_) (fun _ => ?_)).symm
    . simp [conflL, dstIn, h3, memN_of ht]
    . simp [conflL, dstIn, h3, memN_of ht]
   have hw2 : wants all o (sel (fun i => listed.getD i false) (frEs all rs) 0 fr0) = some rc.ex := by
    rw [<- hwt]
    unfold wants
    cases hgd : o.guard with
    | none => rfl
    | some gw =>
      obtain ⟨j, want⟩ := gw
      simp only
      cases hgt : guardT all j with
      | none => rfl
      | some t =>
        simp only
        rw [frEq t (by simp [looks, hgd, hgt])]
   have hwanted := wanted_of inv.fr hw2
   have frMore : ∀ t, fget (putD o.dst rc.val ++ sel (fun i => listed.getD i false) (frEs all rs) 0 fr0) t = fget (sel (fun x => (listed.setIfInBounds i true).getD x false) (frEs all rs) 0 fr0) t := by
    intro t
    have hE : (frEs all rs)[i]? = some (putD o.dst rc.val) := by simp [frEs, List.getElem?_zipWith, hoi, hrc]
    have := sel_more (d := FV.top) (fun i => listed.getD i false) (frEs all rs) 0 fr0 i (putD o.dst rc.val) t hE (by rw [Nat.zero_add]; exact hSi) (fun j e hij he hSj u hu => by
     rw [Nat.zero_add] at hSj
     cases hk : hasKey e u with
     | false => rfl
     | true =>
       obtain ⟨oj, rj, h1, h2, h3, _⟩ := frj j e u he hk
       have hdu : o.dst = some u := by
        cases hd : o.dst with
        | none => rw [hd] at hu; cases hu
        | some v =>
          rw [hd] at hu
          simp only [putD, hasKey, List.any_cons, List.any_nil, Bool.or_false] at hu
          rw [Nat.eq_of_beq_eq_true hu]
       have := order j oj rj h1 h2 (fun _ => by simp [conflL, dstEq, hdu, h3]) (fun hji => by omega)
       rw [hSj, decide_eq_false (by omega)] at this
       cases this)
    rw [Nat.zero_add] at this
    show look FV.top _ t = look FV.top _ t
    rw [<- this]
    refine sel_congr _ _ _ _ _ _ _ _ rfl fun j e _ _ => ?_
    rw [Nat.zero_add, getD_set hisz]
   have apart : ∀ j k, listed.getD j false = true -> nx + wd * i <= k -> k < nx + wd * i + wd -> ¬ (nx + wd * j <= k /\ k < nx + wd * j + wd) := fun j k hj h1 h2 h3 => by
    have hji : j ≠ i := fun h => by subst h; rw [hSi] at hj; cases hj
    rcases Nat.lt_or_ge j i with h | h
    . have := Nat.mul_le_mul_left wd h; rw [Nat.mul_succ] at this; omega
    . have := Nat.mul_le_mul_left wd (show i + 1 <= j by omega); rw [Nat.mul_add, Nat.mul_one] at this; omega
   have hunl : unl (listed.setIfInBounds i true).toList = fuel := by
    have := unl_set listed.toList i (by
     have : listed[i]? = some false := by
      rw [Array.getD_eq_getD_getElem?] at hSi
      rw [Array.getElem?_eq_getElem hisz] at hSi ⊢
      simpa using hSi
     simpa using this)
    rw [Array.toList_setIfInBounds]
    omega
   have hfree : Free r (HLs T all L frF nx H0 (listed.getD 0 false) Lst) (nx + wd * i) wd := fun k h1 h2 => inv.names k (by omega) fun j hj => apart j k hj h1 h2
   obtain ⟨hgd, hpure⟩ := shape i o rc hoi hrc
   have hex : rc.ex = true := by
    have := hwt
    unfold wants at this
    rw [hgd] at this
    simpa using this.symm
   rw [hex] at hstep
   obtain ⟨sr, hs, hv, he, hrd⟩ := hstep
   have next : ∀ (Lst' : List Nat) (v : Value) (w' : World) (r' : Ren) (HX : Hp), Ext r (wr r (HLs T all L frF nx H0 (listed.getD 0 false) Lst)) w r' (wr r' HX) w' -> St cx r' HX w' -> (∀ k, hget HX k = hget (HLs T all L frF nx H0 ((listed.setIfInBounds i true).getD 0 false) Lst') k) ->
    (∀ k, k < nx + wd * i \/ nx + wd * i + wd <= k -> r' k = r k) -> (∀ k e, hget HX k = some e -> (nx + wd * i <= k /\ k < nx + wd * i + wd) \/ ∃ e', hget (HLs T all L frF nx H0 (listed.getD 0 false) Lst) k = some e') -> rc.val.rel r' cx.X (wr r' HX) w' v ->
    ((listed.setIfInBounds i true).getD 0 false = true -> ∃ x, r' nx = some x /\ x.sz = 0) -> Lst'.Nodup -> (∀ j, j ∈ Lst' ↔ ((listed.setIfInBounds i true).getD j false = true /\ isInsAt all L j = true)) -> wpAny P .any all.toArray Q fuel (listed.setIfInBounds i true) (a.put o.dst v) w' := by
    intro Lst' v w' r' HX hext hst hHX hr' hnew hrel hmp hnod hmem
    refine ih _ Lst' _ _ r' hunl ⟨by simp [inv.size], fun x ox hx hz e he hb => ?_, hst.congr hHX, ?_, fun k hk hkn => ?_, by rw [put_tmps.1]; exact inv.tsz, by rw [put_tmps.2]; exact inv.defers, fun k hk => by rw [hr' k (.inl (by omega))]; exact inv.low k hk, hmp, hnod, hmem⟩
    . rw [getD_set hisz] at hz ⊢
      simp only [Bool.or_eq_true, beq_iff_eq] at hz ⊢
      rcases hz with rfl | hz
      . rw [hoi] at hx; injection hx with hx; subst hx
        exact .inr (hdeps e he hb)
      . exact .inr (inv.closed x ox hx hz e he hb)
    . exact (FrOk.put (inv.fr.ext hext) (by rw [inv.tsz]; exact hokd) hrel).congr hHX frMore
    . have hki : ¬ (nx + wd * i <= k /\ k < nx + wd * i + wd) := hkn i (by rw [getD_set hisz]; simp)
      have hold := inv.names k hk fun j hj => hkn j (by rw [getD_set hisz, hj]; simp)
      rw [hr' k (by omega), <- hHX k]
      refine ⟨hold.1, ?_⟩
      cases hh : hget HX k with
      | none => rfl
      | some e =>
        rcases hnew k e hh with h | ⟨e', h⟩
        . exact absurd h hki
        . rw [hold.2] at h; cases h
   unfold wpOp
   simp only [ho, hwanted, hex]
   rw [if_pos True.intro]
   refine .inl ?_
   have hl0 : (listed.setIfInBounds i true).getD 0 false = (0 == i || listed.getD 0 false) := getD_set hisz
   have hmemP : isInsAt all L i = false -> ∀ j, j ∈ Lst ↔ ((listed.setIfInBounds i true).getD j false = true /\ isInsAt all L j = true) := fun hni j => by
    rw [inv.mem, getD_set hisz]
    constructor
    . exact fun h => ⟨by rw [h.1, Bool.or_true], h.2⟩
    . rintro ⟨h1, h2⟩
      simp only [Bool.or_eq_true, beq_iff_eq] at h1
      rcases h1 with rfl | h1
      . rw [hni] at h2; cases h2
      . exact ⟨h1, h2⟩
   have eHS : ∀ k e', k ≠ nx -> hget (HLs T all L frF nx H0 (listed.getD 0 false) Lst) k = some e' -> hget H0 k = some e' := fun k e' hk h => by
    cases hb : listed.getD 0 false with
    | false => rw [hb] at h; exact h
    | true => rw [hb] at h; exact (look_cons_ne _ _ _ hk).symm.trans h
   by_cases hi0 : i = 0
   . subst hi0
     have hoi' : o = o0 := by rw [h0] at hoi; injection hoi with hoi; exact hoi.symm
     have hLn : Lst = [] := by
      rw [List.eq_nil_iff_forall_not_mem]
      intro j hj
      obtain ⟨h1, h2⟩ := (inv.mem j).1 hj
      obtain ⟨oj, I, hoj, hoI, _⟩ := insP j h2
      obtain ⟨rj, hrj, _⟩ := hat j oj hoj
      have hne : j ≠ 0 := fun h => by subst h; rw [hno0] at h2; cases h2
      have := order j oj rj hoj hrj (fun _ => by
       have : dstIn (looks all oj) o.dst = true := by
        rw [hoi', hdst0]
        exact memN_of (look_ins hoI).1
       simp [conflL, this]) (fun h => by omega)
      rw [h1, decide_eq_false (by omega)] at this
      cases this
     subst hLn
     have eqn : nx + wd * 0 = nx := by rw [Nat.mul_zero, Nat.add_zero]
     rw [eqn] at hs hfree next
     have hsr : sr = ⟨none, one (.mp nx), [(nx, some ⟨mapCode L.ks L.ka L.va, 0, L.ks + L.vs, false, fun _ _ => .top⟩)], []⟩ := by
      rcases hs with ⟨h1, _⟩ | ⟨f, args, h1, _⟩
      . rw [hoi', hop0] at h1
        have h1 : mapNew T L.t nx = some sr := h1
        unfold mapNew at h1
        rw [hTL] at h1
        exact (cond_some' h1).2.symm
      . rw [hoi', hop0] at h1
        cases h1
     have hS0 : HLs T all L frF nx H0 (listed.getD 0 false) [] = H0 := by rw [hSi]; rfl
     have hs2 := stp_congr (fr' := sel (fun i => listed.getD i false) (frEs all rs) 0 fr0) (H' := HLs T all L frF nx H0 (listed.getD 0 false) []) hs (fun t ht => by rw [hoi', hop0] at ht; cases ht) (fun k hk => by rw [hsr] at hk; cases hk) (fun h => by rw [hsr] at h; cases h)
     refine stp_ok hT hs2 inv.st inv.fr hfree (fun h => by rw [hsr] at h; cases h) hwd fun v w' hleft => ?_
     obtain ⟨r', g1, g2, g3, g5, g4⟩ := hleft
     have hrv : rc.val = one (.mp nx) := by rw [<- hv, hsr]
     rw [hsr] at g1 g2 g4 g5
     dsimp only at g1 g2 g4 g5
     have hgt : hget ([(nx, some (⟨mapCode L.ks L.ka L.va, 0, L.ks + L.vs, false, fun _ _ => .top⟩ : Ent))] ++ HLs T all L frF nx H0 (listed.getD 0 false) []) nx = some ⟨mapCode L.ks L.ka L.va, 0, L.ks + L.vs, false, fun _ _ => .top⟩ := look_cons_eq _ _ _ _
     have g2' := g2.swap (e' := entL T all L frF []) hgt fun h => h.map rfl rfl rfl rfl rfl (fun _ _ => rfl) fun i hi => absurd hi (Nat.not_lt_zero i)
     have hwr := wr_swap (r := r') (e' := entL T all L frF []) hgt
     refine next [] v w' r' _ (by rw [hwr]; exact g1) g2' (fun k => ?_) g3 (fun k e hk => ?_) (by rw [hwr, hrv]; exact g4) (fun _ => ?_) List.nodup_nil (hmemP hno0)
     . rw [hl0]
       show hget _ k = hget ((nx, some (entL T all L frF [])) :: H0) k
       by_cases hk : k = nx
       . subst hk; exact (look_cons_eq _ _ _ _).trans (look_cons_eq _ _ _ _).symm
       . rw [hS0]
         exact (look_cons_ne _ _ _ hk).trans ((look_cons_ne _ _ _ hk).trans (look_cons_ne _ _ _ hk).symm)
     . by_cases hkn : k = nx
       . exact .inl ⟨by omega, by omega⟩
       . rcases g5 k e ((look_cons_ne _ _ _ hkn).symm.trans hk) with h | h
         . exact .inl ⟨h.1.resolve_right (fun h => by cases h), h.2⟩
         . exact .inr h
     . obtain ⟨x, hx, hz, _⟩ := g4
       exact ⟨x, hx, hz⟩
   . have hwi : 0 < wd * i := Nat.mul_pos hwd (by omega)
     have hl1 : (listed.setIfInBounds i true).getD 0 false = listed.getD 0 false := by
      rw [hl0]
      have : (0 == i) = false := by simp; omega
      rw [this, Bool.false_or]
     cases hins : isInsAt all L i with
     | false =>
       obtain ⟨p1, p2⟩ := hpure hi0 hins
       have hre : sr.eff = [] := by rw [he, p1]
       have hrr : sr.rd = [] := by rw [hrd, p2]
       have hs2 := stp_congr (fr' := sel (fun i => listed.getD i false) (frEs all rs) 0 fr0) (H' := HLs T all L frF nx H0 (listed.getD 0 false) Lst) hs (fun t ht => frEq t (by simp [looks, ht])) (fun k hk => by rw [hrr] at hk; cases hk) (fun h => by rw [hrr] at h; cases h)
       refine stp_ok hT hs2 inv.st inv.fr hfree (fun h => by rw [hrr] at h; cases h) hwd fun v w' hleft => ?_
       obtain ⟨r', g1, g2, g3, g5, g4⟩ := hleft
       rw [hre] at g1 g2 g4 g5
       rw [hrr] at g5
       rw [hv] at g4
       refine next Lst v w' r' _ g1 g2 (fun k => by rw [hl1]; rfl) g3 (fun k e hk => ?_) g4 (fun h => ?_) inv.nod (hmemP hins)
       . rcases g5 k e hk with h | h
         . exact .inl ⟨h.1.resolve_right (fun h => by cases h), h.2⟩
         . exact .inr h
       . rw [hl1] at h
         obtain ⟨x, hx, hz⟩ := inv.mp h
         exact ⟨x, by rw [g3 nx (.inl (by omega))]; exact hx, hz⟩
     | true =>
       obtain ⟨o', I, ho', hoI, hI, hit, hlate, hpairs⟩ := insP i hins
       rw [hoi] at ho'
       injection ho' with ho'
       subst ho'
       obtain ⟨hlm, k, x, hop⟩ := look_ins hoI
       obtain ⟨rc0, hrc0, _⟩ := hat 0 o0 h0
       have hl0t : listed.getD 0 false = true := by
        rw [order 0 o0 rc0 h0 hrc0 (fun h => by omega) (fun _ => by
         have : dstIn (looks all o) o0.dst = true := by rw [hdst0]; exact memN_of hlm
         simp [conflL, this])]
        exact decide_eq_true (by omega)
       have eHS1 : HLs T all L frF nx H0 (listed.getD 0 false) Lst = (nx, some (entL T all L frF Lst)) :: H0 := by rw [hl0t]; rfl
       have frL : ∀ t ∈ looks all o, fget frF t = fget (sel (fun i => listed.getD i false) (frEs all rs) 0 fr0) t := fun t ht => by
        rw [<- frEq t ht, <- hfrF, <- sel_take]
        refine sel_congr _ _ _ _ _ _ _ _ rfl fun j e he hk => ?_
        obtain ⟨oj, rj, q1, q2, q3, _⟩ := frj j e t he hk
        rw [Nat.zero_add, Nat.zero_add]
        symm
        refine decide_eq_true ?_
        rcases Nat.lt_or_ge j i with h | h
        . exact h
        . have := hlate j oj h q1
          rw [q3] at this
          have h2 : memN (looks all o) t = true := memN_of ht
          rw [show dstIn (looks all o) (some t) = memN (looks all o) t from rfl, h2] at this
          cases this
       have tl : ∀ t ∈ tmpsOf o.op, fget frF t = fget (sel (fun i => listed.getD i false) (frEs all rs) 0 fr0) t := fun t ht => frL t (by simp [looks, ht])
       have evk : ev frF k = ev (sel (fun i => listed.getD i false) (frEs all rs) 0 fr0) k := ev_congr tl (by rw [hop]; simp [Op.operands])
       have evx : ev frF x = ev (sel (fun i => listed.getD i false) (frEs all rs) 0 fr0) x := ev_congr tl (by rw [hop]; simp [Op.operands])
       have hmv : ev (sel (fun i => listed.getD i false) (frEs all rs) 0 fr0) (.tmp L.m) = .e (.c (.mp nx)) := by
        show fget _ L.m = _
        rw [<- frL L.m hlm]
        exact hmap
       rw [hop] at hI
       have hI2 : litI T L (sel (fun i => listed.getD i false) (frEs all rs) 0 fr0) (.insert L.t (.tmp L.m) k x) = some I := by
        rw [<- hI]
        unfold litI
        dsimp only
        rw [evk, evx]
       have hgt : hget (HLs T all L frF nx H0 (listed.getD 0 false) Lst) nx = some (entL T all L frF Lst) := by rw [eHS1]; exact look_cons_eq _ _ _ _
       have hset := mapSet_lit (n := Lst.length) (f := fun k => litC L.ks (itAt T all L frF (Lst.getD k 0))) hTL hgt hI2
       have hother : ∀ q, q < Lst.length -> isInsAt all L (Lst.getD q 0) = true /\ i ≠ Lst.getD q 0 := fun q hq => by
        have e : Lst.getD q 0 = Lst[q] := by rw [List.getD_eq_getElem?_getD, List.getElem?_eq_getElem hq]; rfl
        obtain ⟨z1, z2⟩ := (inv.mem _).1 (List.getElem_mem hq)
        rw [e]
        exact ⟨z2, fun h => by rw [<- h, hSi] at z1; cases z1⟩
       rw [findI_none _ _ fun q hq => (hpairs _ (hother q hq).1 (hother q hq).2).2] at hset
       have hblt : Nat.blt Lst.length Lst.length = false := by
        cases hb : Nat.blt Lst.length Lst.length with
        | false => rfl
        | true => have := Nat.le_of_ble_eq_true hb; omega
       rw [hblt, cond_false] at hset
       have hval : rc.val = .top := by
        rw [<- hv]
        rcases hs with ⟨h1, _⟩ | ⟨f, args, h1, _⟩
        . rw [hop] at h1
          exact mapSet_val h1
        . rw [hop] at h1
          cases h1
       have hpre : ∀ q, q < Lst.length -> okFrom I.g (litC L.ks (itAt T all L frF (Lst.getD q 0))) I.l 0 = true := fun q hq => (hpairs _ (hother q hq).1 (hother q hq).2).1
       rw [<- hmv] at hset
       have h1 : stepF T (.insert L.t (.tmp L.m) k x) (sel (fun i => listed.getD i false) (frEs all rs) 0 fr0) (HLs T all L frF nx H0 (listed.getD 0 false) Lst) (nx + wd * i) = _ := hset
       rw [<- hop] at h1
       have hs2 : Stp P T o.op (sel (fun i => listed.getD i false) (frEs all rs) 0 fr0) (HLs T all L frF nx H0 (listed.getD 0 false) Lst) (nx + wd * i) wd _ := .inl ⟨h1, hpre⟩
       have hnx : nx ≠ ALLN := hnA
       refine stp_ok hT hs2 inv.st inv.fr hfree (fun h => absurd (List.mem_singleton.1 h).symm hnx) hwd fun v w' hleft => ?_
       obtain ⟨r', g1, g2, g3, g5, g4⟩ := hleft
       dsimp only at g1 g2 g5
       have hgt2 : hget ([(nx, some (⟨mapCode L.ks L.ka L.va, Lst.length + 1, L.ks + L.vs, false, fun i j => selC (Nat.beq i Lst.length) (litC L.ks I j) (litC L.ks (itAt T all L frF (Lst.getD i 0)) j)⟩ : Ent))] ++ HLs T all L frF nx H0 (listed.getD 0 false) Lst) nx = some (⟨mapCode L.ks L.ka L.va, Lst.length + 1, L.ks + L.vs, false, fun i j => selC (Nat.beq i Lst.length) (litC L.ks I j) (litC L.ks (itAt T all L frF (Lst.getD i 0)) j)⟩ : Ent) := look_cons_eq _ _ _ _
       have g2' := g2.swap (e' := entL T all L frF (Lst ++ [i])) hgt2 fun h => h.map rfl (by show Lst.length + 1 = (Lst ++ [i]).length; simp) rfl rfl rfl (fun _ _ => rfl) fun q hq j hj u hu => by
        have hq : q < Lst.length + 1 := hq
        show (litC L.ks (itAt T all L frF ((Lst ++ [i]).getD q 0)) j).rel _ _ _ _ _
        have hu : (selC (Nat.beq q Lst.length) (litC L.ks I j) (litC L.ks (itAt T all L frF (Lst.getD q 0)) j)).rel _ _ _ _ _ := hu
        by_cases hql : q = Lst.length
        . subst hql
          rw [show Nat.beq Lst.length Lst.length = true by simp, selC_true] at hu
          rw [List.getD_eq_getElem?_getD, List.getElem?_append_right (Nat.le_refl _), Nat.sub_self]
          show (litC L.ks (itAt T all L frF i) j).rel _ _ _ _ _
          rw [hit]; exact hu
        . have : Nat.beq q Lst.length = false := by
           cases hb : Nat.beq q Lst.length with
           | false => rfl
           | true => exact absurd (Nat.eq_of_beq_eq_true hb) hql
          rw [this, selC_false] at hu
          rw [List.getD_eq_getElem?_getD, List.getElem?_append_left (by omega), <- List.getD_eq_getElem?_getD]
          exact hu
       have hwr := wr_swap (r := r') (e' := entL T all L frF (Lst ++ [i])) hgt2
       refine next (Lst ++ [i]) v w' r' _ (by rw [hwr]; exact g1) g2' (fun k => ?_) g3 (fun k e hk => ?_) (by rw [hval]; trivial) (fun _ => ?_) ?_ (fun j => ?_)
       . rw [hl1, eHS1, hl0t]
         show hget _ k = hget ((nx, some (entL T all L frF (Lst ++ [i]))) :: H0) k
         by_cases hk : k = nx
         . subst hk; exact (look_cons_eq _ _ _ _).trans (look_cons_eq _ _ _ _).symm
         . exact (look_cons_ne _ _ _ hk).trans ((look_cons_ne _ _ _ hk).trans ((look_cons_ne _ _ _ hk).trans (look_cons_ne _ _ _ hk).symm))
       . by_cases hkn : k = nx
         . subst hkn; exact .inr ⟨_, hgt⟩
         . rcases g5 k e ((look_cons_ne _ _ _ hkn).symm.trans hk) with h | h
           . exact .inl ⟨h.1.resolve_right (fun h => absurd (List.mem_singleton.1 h).symm hnx), h.2⟩
           . exact .inr h
       . obtain ⟨x, hx, hz⟩ := inv.mp hl0t
         exact ⟨x, by rw [g3 nx (.inl (by omega))]; exact hx, hz⟩
       . rw [List.nodup_append]
         refine ⟨inv.nod, by simp, fun a ha b hb => ?_⟩
         rw [List.mem_singleton.1 hb]
         rintro rfl
         have := ((inv.mem _).1 ha).1
         rw [hSi] at this; cases this
       . rw [List.mem_append, List.mem_singleton, inv.mem, getD_set hisz]
         constructor
         . rintro (h | h)
           . exact ⟨by rw [h.1, Bool.or_true], h.2⟩
           . subst h; exact ⟨by simp, hins⟩
         . rintro ⟨h1, h2⟩
           simp only [Bool.or_eq_true, beq_iff_eq] at h1
           rcases h1 with h1 | h1
           . exact .inr h1
           . exact .inl ⟨h1, h2⟩
end
structure Wc where
 H : Hp
 H' : Hp
 rho : List (Nat × Option Nat)
 nx : Nat
 fin : Bool := false
def lookR : List (Nat × Option Nat) -> Nat -> Option (Option Nat)
 | [], _ => none
 | (k, v) :: rest, t => bif Nat.beq t k then some v else lookR rest t
def Wc.src (c : Wc) (k : Nat) : Option Nat :=
 match lookR c.rho k with
 | some o => o
 | none => bif Nat.blt k c.nx then some k else none
def Wc.ren (c : Wc) (r : Ren) (k : Nat) : Option Bi :=
 match c.src k with
 | some k0 => r k0
 | none => none
def Wc.wr (c : Wc) (cx : Cx) (r : Ren) (b : Nat) : Prop := AX.wr (c.ren r) c.H' b \/ (c.fin = true /\ cx.X b)
def Wc.Live (c : Wc) : Prop := ∀ k e', hget c.H' k = some e' -> ∀ k0, c.src k = some k0 -> ∃ e, hget c.H k0 = some e
def LeC (c : Wc) (x y : CV) : Prop := c.Live -> ∀ cx r w v, St cx r c.H w -> x.rel r cx.X (wr r c.H) w v -> y.rel (c.ren r) cx.X (c.wr cx r) w v
def LeE (c : Wc) (x y : EV) : Prop := c.Live -> ∀ cx r w v, St cx r c.H w -> x.rel r cx.X (wr r c.H) w v -> y.rel (c.ren r) cx.X (c.wr cx r) w v
def LeF (c : Wc) (x y : FV) : Prop := c.Live -> ∀ cx r w v, St cx r c.H w -> x.rel r cx.X (wr r c.H) w v -> y.rel (c.ren r) cx.X (c.wr cx r) w v
structure LeN (c : Wc) (e e' : Ent) : Prop where
 t : e.t = e'.t
 n : e.n = e'.n
 sz : e.sz = e'.sz
 v : e.v = e'.v
 f : ∀ i, i < e.n -> ∀ j, j < e.sz -> LeC c (e.f i j) (e'.f i j)
def WkF (c : Wc) (fr : Fr) : Fr -> Prop
 | [] => True
 | (t, v) :: rest => LeF c (fget fr t) v /\ WkF c fr rest
def WkE (c : Wc) (e' : Ent) (o : Option Nat) : Prop :=
 match o with
 | some k0 => match hget c.H k0 with
   | some e => LeN c e e'
   | none => False
 | none => e'.n = 0 /\ e'.v = false /\ 0 < e'.sz
def WkH (c : Wc) : Hp -> Prop
 | [] => True
 | (_, none) :: rest => WkH c rest
 | (k, some e') :: rest => (Nat.blt k c.nx = true /\ WkE c e' (c.src k)) /\ WkH c rest
def srcs (c : Wc) : Hp -> List Nat
 | [] => []
 | (_, none) :: rest => srcs c rest
 | (k, some _) :: rest => (c.src k).toList ++ srcs c rest
def nodupN : List Nat -> Bool
 | [] => true
 | k :: l => !(l.any (Nat.beq k)) && nodupN l
def rhoOk (np : Nat) (c : Wc) : Bool := (c.rho.all fun p => Nat.ble np p.1 && Nat.blt p.1 c.nx) && nodupN (srcs c c.H')
theorem WkF.at {c : Wc} {fr : Fr} : ∀ {fr' : Fr}, WkF c fr fr' -> ∀ t, LeF c (fget fr t) (fget fr' t) := by
 intro fr'
 induction fr' with
 | nil => intro _ t _ cx r w v _ _; trivial
 | cons p fr' ih =>
   obtain ⟨k, x⟩ := p
   rintro ⟨h1, h2⟩ t
   by_cases ht : t = k
   . subst ht
     have : fget ((t, x) :: fr') t = x := look_cons_eq _ _ _ _
     rw [this]; exact h1
   . have : fget ((k, x) :: fr') t = fget fr' t := look_cons_ne _ _ _ ht
     rw [this]; exact ih h2 t
theorem WkH.at {c : Wc} : ∀ {H' : Hp}, WkH c H' -> ∀ k e', hget H' k = some e' -> k < c.nx /\ WkE c e' (c.src k) := by
 intro H'
 induction H' with
 | nil => intro _ k e' h; cases h
 | cons p H' ih =>
   obtain ⟨k0, x⟩ := p
   intro h k e' he
   by_cases hk : k = k0
   . subst hk
     have e1 : hget ((k, x) :: H') k = x := look_cons_eq _ _ _ _
     rw [e1] at he
     subst he
     exact ⟨Nat.le_of_ble_eq_true h.1.1, h.1.2⟩
   . have e1 : hget ((k0, x) :: H') k = hget H' k := look_cons_ne _ _ _ hk
     rw [e1] at he
     cases x with
     | none => exact ih h k e' he
     | some x => exact ih h.2 k e' he
theorem WkH.live {c : Wc} (h : WkH c c.H') : c.Live := fun k e' he k0 hk0 => by
 obtain ⟨_, h1⟩ := h.at k e' he
 rw [hk0] at h1
 unfold WkE at h1
 simp only at h1
 split at h1
 . rename_i e hh; exact ⟨e, hh⟩
 . exact h1.elim
theorem srcs_mem {c : Wc} {k k0 : Nat} (hs : c.src k = some k0) : ∀ {H' : Hp} {e' : Ent}, hget H' k = some e' -> k0 ∈ srcs c H' := by
 intro H'
 induction H' with
 | nil => intro e' h; cases h
 | cons p H' ih =>
   obtain ⟨k1, x⟩ := p
   intro e' he
   by_cases hk : k = k1
   . subst hk
     have e1 : hget ((k, x) :: H') k = x := look_cons_eq _ _ _ _
     rw [e1] at he
     subst he
     simp [srcs, hs]
   . have e1 : hget ((k1, x) :: H') k = hget H' k := look_cons_ne _ _ _ hk
     rw [e1] at he
     cases x with
     | none => exact ih he
     | some x => simp only [srcs]; exact List.mem_append_right _ (ih he)
theorem srcs_inj {c : Wc} : ∀ {H' : Hp}, nodupN (srcs c H') = true -> ∀ k m e e' k0, hget H' k = some e -> hget H' m = some e' -> c.src k = some k0 -> c.src m = some k0 -> k = m := by
 intro H'
 induction H' with
 | nil => intro _ k m e e' k0 h; cases h
 | cons p H' ih =>
   obtain ⟨k1, x⟩ := p
   intro hn k m e e' k0 hk hm sk sm
   have ne : ∀ j, j ≠ k1 -> hget ((k1, x) :: H') j = hget H' j := fun j hj => look_cons_ne _ _ _ hj
   cases x with
   | none =>
     have e0 : hget ((k1, none) :: H') k1 = none := look_cons_eq _ _ _ _
     by_cases h1 : k = k1
     . subst h1; rw [e0] at hk; cases hk
     . by_cases h2 : m = k1
       . subst h2; rw [e0] at hm; cases hm
       . rw [ne k h1] at hk; rw [ne m h2] at hm
         exact ih hn k m e e' k0 hk hm sk sm
   | some x =>
     have tail : ∀ j ej, j ≠ k1 -> hget ((k1, some x) :: H') j = some ej -> c.src j = some k0 -> c.src k1 = some k0 -> False := fun j ej hj hej sj s1 => by
      rw [ne j hj] at hej
      have hmem := srcs_mem sj hej
      simp only [srcs, s1, Option.toList_some, List.singleton_append, nodupN, Bool.and_eq_true, Bool.not_eq_true'] at hn
      have : (srcs c H').any (Nat.beq k0) = true := List.any_eq_true.2 ⟨k0, hmem, by simp⟩
      rw [hn.1] at this; cases this
     by_cases h1 : k = k1
     . by_cases h2 : m = k1
       . omega
       . subst h1; exact (tail m e' h2 hm sm sk).elim
     . by_cases h2 : m = k1
       . subst h2; exact (tail k e h1 hk sk sm).elim
       . rw [ne k h1] at hk; rw [ne m h2] at hm
         refine ih ?_ k m e e' k0 hk hm sk sm
         simp only [srcs] at hn
         cases hs : c.src k1 with
         | none => rw [hs] at hn; exact hn
         | some q =>
           rw [hs] at hn
           simp only [Option.toList_some, List.singleton_append, nodupN, Bool.and_eq_true] at hn
           exact hn.2
theorem lookR_mem : ∀ {l : List (Nat × Option Nat)} {k : Nat} {o : Option Nat}, lookR l k = some o -> ∃ p ∈ l, p.1 = k := by
 intro l
 induction l with
 | nil => intro k o h; cases h
 | cons p l ih =>
   obtain ⟨k1, v⟩ := p
   intro k o h
   simp only [lookR] at h
   cases hb : Nat.beq k k1 with
   | true => exact ⟨(k1, v), List.mem_cons_self .., (Nat.eq_of_beq_eq_true hb).symm⟩
   | false =>
     rw [hb, cond_false] at h
     obtain ⟨p, hp, hk⟩ := ih h
     exact ⟨p, List.mem_cons_of_mem _ hp, hk⟩
theorem weaken {cx : Cx} {r : Ren} {w : World} {fr : Fr} {tmps : Array Value} {c : Wc} {np : Nat} (st : St cx r c.H w) (hf : FrOk cx r c.H w fr tmps) {fr' : Fr} (h0 : ∀ k b, cx.pin k = some b -> k < np) (hnp : Nat.ble np c.nx = true) (hrho : rhoOk np c = true) (hfin : c.fin = false) (h1 : WkF c fr fr') (h2 : WkH c c.H') :
 St cx (c.ren r) c.H' w /\ FrOk cx (c.ren r) c.H' w fr' tmps /\ (∀ k, c.nx <= k -> c.ren r k = none /\ hget c.H' k = none) /\ ∀ k, k < np -> c.ren r k = r k := by
 simp only [rhoOk, Bool.and_eq_true] at hrho
 have hlive := h2.live
 have hwr : c.wr cx r = wr (c.ren r) c.H' := by funext b; simp [Wc.wr, hfin]
 have hkeys : ∀ k o, lookR c.rho k = some o -> np <= k /\ k < c.nx := fun k o h => by
  obtain ⟨p, hp, rfl⟩ := lookR_mem h
  have := List.all_eq_true.1 hrho.1 p hp
  simp only [Bool.and_eq_true] at this
  exact ⟨Nat.le_of_ble_eq_true this.1, Nat.le_of_ble_eq_true this.2⟩
 have hren : ∀ k x, c.ren r k = some x -> ∃ k0, c.src k = some k0 /\ r k0 = some x := fun k x h => by
  unfold Wc.ren at h
  split at h
  . rename_i k0 hk0; exact ⟨k0, hk0, h⟩
  . cases h
 refine ⟨⟨st.os, st.tape, st.output, st.size, st.kept, st.xlt, fun k x h => ?_, fun k e' x he hx => ?_, fun n m e e' x y hn hm hx hy hxy => ?_, fun k b hk => ?_, fun k e' he => ?_⟩, fun t => by rw [<- hwr]; exact h1.at t hlive cx r w _ st (hf t), fun k hk => ⟨?_, ?_⟩, fun k hk => ?_⟩
 . obtain ⟨k0, _, h⟩ := hren k x h
   exact st.dom k0 x h
 . obtain ⟨k0, s1, hx⟩ := hren k x hx
   obtain ⟨e1, l1⟩ := hlive k e' he k0 s1
   exact st.ow k0 e1 x l1 hx
 . obtain ⟨n0, s1, hx⟩ := hren n x hx
   obtain ⟨m0, s2, hy⟩ := hren m y hy
   obtain ⟨e1, l1⟩ := hlive n e hn n0 s1
   obtain ⟨e2, l2⟩ := hlive m e' hm m0 s2
   have := st.inj n0 m0 e1 e2 x y l1 l2 hx hy hxy
   subst this
   exact srcs_inj hrho.2 n m e e' n0 hn hm s1 s2
 . have hlt := h0 k b hk
   have hl : lookR c.rho k = none := by
    cases hl : lookR c.rho k with
    | none => rfl
    | some o => have := hkeys k o hl; omega
   have hs : c.src k = some k := by
    unfold Wc.src
    rw [hl]
    have : Nat.blt k c.nx = true := Nat.ble_eq_true_of_le (Nat.lt_of_lt_of_le hlt (Nat.le_of_ble_eq_true hnp))
    simp only [this, cond_true]
   unfold Wc.ren
   rw [hs]
   exact st.pin k b hk
 . obtain ⟨hlt, hw⟩ := h2.at k e' he
   cases hs : c.src k with
   | none =>
     rw [hs] at hw
     obtain ⟨g1, g2, g3⟩ := hw
     exact ⟨g3, (fun h => by rw [g2] at h; cases h), .inl ⟨by unfold Wc.ren; rw [hs], g1⟩⟩
   | some k0 =>
     rw [hs] at hw
     unfold WkE at hw
     simp only at hw
     split at hw
     . rename_i e hh
       have hrk : c.ren r k = r k0 := by unfold Wc.ren; rw [hs]
       exact (st.blk k0 e hh).map hw.t hw.n hw.sz hw.v hrk.symm (fun _ _ => rfl) fun i hi j hj u hu => by
        rw [<- hwr]
        exact hw.f i hi j hj hlive cx r w u st hu
     . exact hw.elim
 . unfold Wc.ren Wc.src
   cases hl : lookR c.rho k with
   | some o => have := hkeys k o hl; omega
   | none =>
     have : Nat.blt k c.nx = false := by
      cases hb : Nat.blt k c.nx with
      | false => rfl
      | true => have := Nat.le_of_ble_eq_true hb; omega
     simp only [this, cond_false]
 . cases hh : hget c.H' k with
   | none => rfl
   | some e' => have := (h2.at k e' hh).1; omega
 . have hl : lookR c.rho k = none := by
    cases hl : lookR c.rho k with
    | none => rfl
    | some o => have := hkeys k o hl; omega
   unfold Wc.ren Wc.src
   rw [hl]
   have : Nat.blt k c.nx = true := Nat.ble_eq_true_of_le (Nat.lt_of_lt_of_le hk (Nat.le_of_ble_eq_true hnp))
   simp only [this, cond_true]
abbrev Kt := Exit -> Fr -> Hp -> Nat -> Prop
def seqK (next : Fr -> Hp -> Nat -> Prop) (K : Kt) : Kt
 | .normal, fr, H, nx => next fr H nx
 | e, fr, H, nx => K e fr H nx
def blkK (id : Nat) (K : Kt) : Kt
 | .exit id', fr, H, nx => bif Nat.beq id' id then K .normal fr H nx else K (.exit id') fr H nx
 | e, fr, H, nx => K e fr H nx
def iter (np : Nat) (R : Fr -> Hp -> Nat -> Kt -> Prop) (K : Kt) : Nat -> Fr -> Hp -> Nat -> Prop
 | 0, _, _, _ => False
 | n + 1, fr, H, nx => ∃ fr' H' rho nx', Nat.ble np nx' = true /\ rhoOk np ⟨H, H', rho, nx', false⟩ = true /\ WkF ⟨H, H', rho, nx', false⟩ fr fr' /\ WkH ⟨H, H', rho, nx', false⟩ H' /\ R fr' H' nx' (seqK (iter np R K n) K)
def litK (T : Tys) (ops : List Oper) (nx0 : Nat) (H0 : Hp) (K : Kt) (fr : Fr) (nx : Nat) (log : Log) : Prop :=
 match litOf T ops with
 | some L => bif litOk T ops L fr log nx0 then K .normal fr ((nx0, some (litEnt T ops L fr)) :: H0) nx else False
 | none => False
def exec (T : Tys) (Q : Qs) (wd nt np : Nat) : Code -> Fr -> Hp -> Nat -> Kt -> Prop
 | .skip, fr, H, nx, K => K .normal fr H nx
 | .region _ ops draw, fr, H, nx, K => runR T Q wd nt ops.toList ops.toList 0 fr H nx [] fun fr' H' nx' log => bif !draw || regOkA ops.toList log.reverse then K .normal fr' H' nx' else litK T ops.toList nx H K fr' nx' log.reverse
 | .seq a b, fr, H, nx, K => exec T Q wd nt np a fr H nx (seqK (fun fr H nx => exec T Q wd nt np b fr H nx K) K)
 | .cond c a b, fr, H, nx, K =>
   match ev fr c with
   | .e (.c (.bool t)) => (t = true -> exec T Q wd nt np a fr H nx K) /\ (t = false -> exec T Q wd nt np b fr H nx K)
   | _ => False
 | .block id c, fr, H, nx, K => exec T Q wd nt np c fr H nx (blkK id K)
 | .loop c, fr, H, nx, K => ∃ n, iter np (exec T Q wd nt np c) K n fr H nx
 | .exit id, fr, H, nx, K => K (.exit id) fr H nx
 | .ret, fr, H, nx, K => K .ret fr H nx
 | .label _, fr, H, nx, K => K .normal fr H nx
 | _, _, _, _, _ => False
def Is (cx : Cx) (nt np : Nat) (fx : Ren) (fr : Fr) (H : Hp) (nx : Nat) (a : Act) (w : World) : Prop :=
 ∃ r, St cx r H w /\ FrOk cx r H w fr a.tmps /\ (∀ k, nx <= k -> r k = none /\ hget H k = none) /\ a.tmps.size = nt /\ a.defers = [] /\ np <= nx /\ ∀ k, k < np -> r k = fx k
def lift (cx : Cx) (nt np : Nat) (fx : Ren) (K : Kt) (e : Exit) (a : Act) (w : World) : Prop := ∃ fr H nx, K e fr H nx /\ Is cx nt np fx fr H nx a w
section
variable {P : Program} {cx : Cx} {T : Tys} {Q : Qs} {wd nt np : Nat} {fx : Ren}
theorem seq_region (hT : TysOk P T) (hwd : 0 < wd) {all : List Oper} {R : Exit -> Act -> World -> Prop} : ∀ (os : List Oper) (rs : List Rec) (i : Nat) (fr : Fr) (H : Hp) (nx : Nat), Good P T wd nt all os rs fr H nx -> (∀ j, os[j]? = all[i + j]?) ->
 (∀ a w, Is cx nt np fx (sel (fun _ => true) (frEs os rs) 0 fr) (sel (fun _ => true) (hpEs rs) 0 H) (nx + wd * os.length) a w -> R .normal a w) -> ∀ a w, Is cx nt np fx fr H nx a w -> wpOps P all.toArray R (List.range' i os.length) a w := by
 have selS : ∀ {α : Type} (es : List (List (Nat × α))) (k k' : Nat) (b : List (Nat × α)), sel (fun _ => true) es k b = sel (fun _ => true) es k' b := by
  intro α es
  induction es with
  | nil => intro k k' b; rfl
  | cons e es ih => intro k k' b; rw [sel, sel]; exact ih _ _ _
 intro os
 induction os with
 | nil =>
   intro rs i fr H nx hg _ hQ a w hs
   cases rs with
   | nil => exact hQ a w hs
   | cons => exact hg.elim
 | cons o os ih =>
   intro rs i fr H nx hg hall hQ a w hs
   cases rs with
   | nil => exact hg.elim
   | cons rc rs =>
     obtain ⟨⟨hokd, hwt, hstep⟩, hg2⟩ := hg
     obtain ⟨r, st, hf, hnm, hts, hdf, hnp, hfx⟩ := hs
     have ho : all[i]? = some o := by simpa using (hall 0).symm
     have ho' : all.toArray[i]? = some o := by simpa using ho
     have e1 : sel (fun _ => true) (frEs (o :: os) (rc :: rs)) 0 fr = sel (fun _ => true) (frEs os rs) 0 (putD o.dst rc.val ++ fr) := by
      show sel _ (putD o.dst rc.val :: frEs os rs) 0 fr = _
      rw [sel, cond_true]; exact selS _ _ _ _
     have e2 : sel (fun _ => true) (hpEs (rc :: rs)) 0 H = sel (fun _ => true) (hpEs rs) 0 (rc.eff ++ H) := by
      show sel _ (rc.eff :: hpEs rs) 0 H = _
      rw [sel, cond_true]; exact selS _ _ _ _
     rw [e1, e2, List.length_cons, show nx + wd * (os.length + 1) = nx + wd + wd * os.length by rw [Nat.mul_add, Nat.mul_one]; omega] at hQ
     have next : ∀ a w, Is cx nt np fx (putD o.dst rc.val ++ fr) (rc.eff ++ H) (nx + wd) a w -> wpOps P all.toArray R (List.range' (i + 1) os.length) a w :=
      fun a w hs => ih rs (i + 1) _ _ _ hg2 (fun j => by have := hall (j + 1); simp only [List.getElem?_cons_succ] at this; rw [this]; congr 1; omega) hQ a w hs
     have hfree : Free r H nx wd := fun k h1 _ => hnm k h1
     rw [List.length_cons, List.range'_succ, wpOps_cons]
     unfold wpOp
     simp only [ho', wanted_of hf hwt]
     cases hex : rc.ex with
     | true =>
       rw [hex] at hstep
       obtain ⟨sr, hss, hv, he, hrd⟩ := hstep
       rw [if_pos rfl]
       refine .inl (stp_ok hT hss st hf hfree (fun _ => hnm) hwd fun v w' hleft => ?_)
       obtain ⟨r', g1, g2, g3, g5, g4⟩ := hleft
       rw [he] at g1 g2 g4 g5
       rw [hv] at g4
       refine next _ _ ⟨r', g2, FrOk.put (hf.ext g1) (by rw [hts]; exact hokd) g4, fun k hk => ?_, by rw [put_tmps.1]; exact hts, by rw [put_tmps.2]; exact hdf, by omega, fun k hk => (g3 k (.inl (by omega))).trans (hfx k hk)⟩
       rw [g3 k (by omega)]
       refine ⟨(hnm k (by omega)).1, ?_⟩
       cases hh : hget (rc.eff ++ H) k with
       | none => rfl
       | some e =>
         rcases g5 k e hh with h | ⟨e', h⟩
         . have := h.2; omega
         . rw [(hnm k (by omega)).2] at h; cases h
     | false =>
       rw [hex] at hstep
       obtain ⟨hv, he, hrd⟩ := hstep
       rw [if_neg (by simp)]
       refine next _ _ ⟨r, by rw [he]; exact st, ?_, (fun k hk => by rw [he]; exact hnm k (by omega)), by rw [put_tmps.1]; exact hts, by rw [put_tmps.2]; exact hdf, by omega, hfx⟩
       rw [he, hv]
       exact FrOk.put hf (by rw [hts]; exact hokd) ⟨#[], rfl, rfl, fun i x u h => by cases h⟩
theorem region_ok (hwd : 0 < wd) (hT : TysOk P T) (hQ : QsOk P Q) (hm : P.follows .mixedOrders = true) {id : Nat} {ops : Array Oper} {draw : Bool} {fr : Fr} {H : Hp} {nx : Nat} {K : Kt}
 (h : exec T Q wd nt np (.region id ops draw) fr H nx K) {a : Act} {w : World} (hs : Is cx nt np fx fr H nx a w) : (Code.region id ops draw).wp P (lift cx nt np fx K) a w := by
 unfold exec at h
 obtain ⟨rs, hg, hK⟩ := runR_good hwd hQ _ _ _ _ _ _ _ h
 obtain ⟨hlen, _⟩ := Good.at _ _ _ _ _ hg
 have hrev : ((logOf rs).reverse ++ ([] : Log)).reverse = logOf rs := by simp
 rw [hrev] at hK
 cases draw with
 | false =>
   simp only [Bool.not_false, Bool.true_or, cond_true] at hK
   refine wp_region ?_
   have := seq_region (cx := cx) (R := lift cx nt np fx K) hT hwd ops.toList rs 0 fr H nx hg (fun j => by rw [Nat.zero_add]) (fun a w hs => ⟨_, _, _, hK, hs⟩) a w hs
   simpa [List.range_eq_range'] using this
 | true =>
   simp only [Bool.not_true, Bool.false_or] at hK
   have hrep : ∀ i, (Array.replicate ops.size false).getD i false = false := fun i => by
    rcases Nat.lt_or_ge i ops.size with h | h <;> simp [h]
   have h2 : ∀ {α : Type} (es : List (List (Nat × α))) (k : Nat) (x : List (Nat × α)), sel (fun _ => false) es k x = x := by
    intro α es
    induction es with
    | nil => intro k x; rfl
    | cons e es ih => intro k x; rw [sel]; exact ih _ _
   have hu : ∀ n, unl (List.replicate n false) = n := by
    intro n
    induction n with
    | zero => rfl
    | succ n ih => simp only [List.replicate_succ, unl, cond_false]; omega
   cases hokA : regOkA ops.toList (logOf rs) with
   | false =>
     rw [hokA, cond_false] at hK
     unfold litK at hK
     split at hK
     . rename_i L hL
       cases hlo : litOk T ops.toList L (sel (fun _ => true) (frEs ops.toList rs) 0 fr) (logOf rs) nx with
       | false => rw [hlo] at hK; exact hK.elim
       | true =>
         rw [hlo, cond_true] at hK
         obtain ⟨r, st, hf, hnm, hts, hdf, hnp, hfx⟩ := hs
         obtain ⟨g1, g2⟩ := st.drew (w.drawn + 1)
         refine wp_region_any hm ?_
         have e1 : sel (fun i => (Array.replicate ops.size false).getD i false) (frEs ops.toList rs) 0 fr = sel (fun _ => false) (frEs ops.toList rs) 0 fr := by simp only [hrep]
         have e2 : HLs T ops.toList L (sel (fun _ => true) (frEs ops.toList rs) 0 fr) nx H ((Array.replicate ops.size false).getD 0 false) [] = H := by rw [hrep]; rfl
         have := lit_order (P := P) (cx := cx) (d0 := []) hT hwd hg hL hlo (fx := r) (Q := lift cx nt np fx K) (fun a w r' h1 h3 h4 h5 h6 h7 => ⟨_, _, _, hK, r', h1, h3, h4, h5, h6, by omega, fun k hk => (h7 k (by omega)).trans (hfx k hk)⟩) ops.size (Array.replicate ops.size false) [] a { w with drawn := w.drawn + 1 } r
          (by simp [hu]) ⟨by simp, (fun i o _ h => by rw [hrep] at h; cases h), by rw [e2]; exact g2, by rw [e1, e2, h2]; exact hf.ext g1, (fun k hk _ => by rw [e2]; exact hnm k hk), hts, hdf, (fun _ _ => rfl), (fun h => by rw [hrep] at h; cases h), List.nodup_nil, fun i => by simp [hrep]⟩
         simpa using this
     . exact hK.elim
   | true =>
     rw [hokA, cond_true] at hK
     have hok : regOk ops.toList (logOf rs) = true := hokA
     obtain ⟨r, st, hf, hnm, hts, hdf, hnp, hfx⟩ := hs
     obtain ⟨g1, g2⟩ := st.drew (w.drawn + 1)
     refine wp_region_any hm ?_
     have e1 : sel (fun i => (Array.replicate ops.size false).getD i false) (frEs ops.toList rs) 0 fr = sel (fun _ => false) (frEs ops.toList rs) 0 fr := by simp only [hrep]
     have e2 : sel (fun i => (Array.replicate ops.size false).getD i false) (hpEs rs) 0 H = sel (fun _ => false) (hpEs rs) 0 H := by simp only [hrep]
     have := any_order (P := P) (cx := cx) (d0 := []) hT hwd hg hok (fx := r) (Q := lift cx nt np fx K) (fun a w r' h1 h3 h4 h5 h6 h7 => ⟨_, _, _, hK, r', h1, h3, h4, h5, h6, by omega, fun k hk => (h7 k (by omega)).trans (hfx k hk)⟩) ops.size (Array.replicate ops.size false) a { w with drawn := w.drawn + 1 } r
      (by simp [hu]) ⟨by simp, (fun i o _ h => by rw [hrep] at h; cases h), by rw [e2, h2]; exact g2, by rw [e1, e2, h2, h2]; exact hf.ext g1, (fun k hk _ => by rw [e2, h2]; exact hnm k hk), hts, hdf, fun _ _ => rfl⟩
     simpa using this
theorem exec_ok (hwd : 0 < wd) (hT : TysOk P T) (hQ : QsOk P Q) (hm : P.follows .mixedOrders = true) (hpin : ∀ k b, cx.pin k = some b -> k < np) : ∀ (c : Code) (fr : Fr) (H : Hp) (nx : Nat) (K : Kt), exec T Q wd nt np c fr H nx K -> ∀ a w, Is cx nt np fx fr H nx a w -> c.wp P (lift cx nt np fx K) a w := by
 intro c
 induction c with
 | skip => intro fr H nx K h a w hs; exact wp_skip ⟨_, _, _, h, hs⟩
 | region id ops draw => intro fr H nx K h a w hs; exact region_ok hwd hT hQ hm h hs
 | seq x y ihx ihy =>
   intro fr H nx K h a w hs
   refine wp_seq (wp_mono (ihx _ _ _ _ h a w hs) fun e a' w' hq => ?_)
   obtain ⟨fr', H', nx', hk, hs'⟩ := hq
   cases e <;> first | exact ⟨fr', H', nx', hk, hs'⟩ | exact ihy _ _ _ _ hk a' w' hs'
 | cond c x y ihx ihy =>
   intro fr H nx K h a w hs
   unfold exec at h
   split at h
   . rename_i t hev
     have hs' := hs
     obtain ⟨r, st, hf, _⟩ := hs
     have hc := ev_ok st hf c
     rw [hev] at hc
     have hc' : a.eval c = .bool t := hc
     cases t with
     | true => exact wp_cond_true hc' (ihx _ _ _ _ (h.1 rfl) a w hs')
     | false => exact wp_cond_false hc' (ihy _ _ _ _ (h.2 rfl) a w hs')
   . exact h.elim
 | block id c ih =>
   intro fr H nx K h a w hs
   refine wp_block (wp_mono (ih _ _ _ _ h a w hs) fun e a' w' hq => ?_)
   obtain ⟨fr', H', nx', hk, hs'⟩ := hq
   cases e with
   | exit id' =>
     simp only [blkK] at hk
     show (if id' = id then _ else _)
     by_cases hid : id' = id
     . rw [if_pos hid]
       subst hid
       rw [show Nat.beq id' id' = true by simp, cond_true] at hk
       exact ⟨_, _, _, hk, hs'⟩
     . rw [if_neg hid]
       have : Nat.beq id' id = false := by
        cases hb : Nat.beq id' id with
        | false => rfl
        | true => exact absurd (Nat.eq_of_beq_eq_true hb) hid
       rw [this, cond_false] at hk
       exact ⟨_, _, _, hk, hs'⟩
   | normal => exact ⟨_, _, _, hk, hs'⟩
   | goto l => exact ⟨_, _, _, hk, hs'⟩
   | ret => exact ⟨_, _, _, hk, hs'⟩
   | panic ch => exact ⟨_, _, _, hk, hs'⟩
   | outgrown => exact ⟨_, _, _, hk, hs'⟩
 | loop c ih =>
   intro fr H nx K h a w hs
   obtain ⟨n, hn⟩ := h
   refine wp_loop_rounds n ?_
   induction n generalizing fr H nx a w with
   | zero => exact hn.elim
   | succ n ihn =>
     obtain ⟨fr', H', rho, nx', h0, hrho, h1, h2, h3⟩ := hn
     obtain ⟨r, st, hf, hnm, hts, hdf, hnp, hfx⟩ := hs
     obtain ⟨g1, g2, g3, g4⟩ := weaken (c := ⟨H, H', rho, nx', false⟩) st hf hpin h0 hrho rfl h1 h2
     refine wp_mono (ih _ _ _ _ h3 a w ⟨_, g1, g2, g3, hts, hdf, Nat.le_of_ble_eq_true h0, fun k hk => (g4 k hk).trans (hfx k hk)⟩) fun e a' w' hq => ?_
     obtain ⟨fr2, H2, nx2, hk, hs'⟩ := hq
     cases e <;> first | exact ⟨fr2, H2, nx2, hk, hs'⟩ | exact ihn _ _ _ _ _ hs' hk
 | exit id => intro fr H nx K h a w hs; exact wp_exit ⟨_, _, _, h, hs⟩
 | ret => intro fr H nx K h a w hs; exact wp_ret ⟨_, _, _, h, hs⟩
 | label l => intro fr H nx K h a w hs; exact wp_label ⟨_, _, _, h, hs⟩
 | rangeFunc => intro fr H nx K h a w hs; exact h.elim
 | scope => intro fr H nx K h a w hs; exact h.elim
 | goto => intro fr H nx K h a w hs; exact h.elim
 | refuse => intro fr H nx K h a w hs; exact h.elim
def resE (T : Tys) (fr : Fr) (H : Hp) : ResultVar -> Option EV
 | .tmp t => match fget fr t with
   | .e x => some x
   | _ => none
 | .cell a t =>
   match T t, fget fr a with
   | some ti, .e (.c (.ptr k i j _)) =>
     match hget H k with
     | some ⟨_, en, es, _, ef⟩ => bif Nat.ble (j + ti.size) es && Nat.blt j es && Nat.blt i en then
       match loadF ti (es - j) (fun q => ef i (j + q)) false none [] with
       | some ⟨_, .e x, _, _⟩ => some x
       | _ => none
       else none
     | none => none
   | _, _ => none
def resL (T : Tys) (fr : Fr) (H : Hp) : List ResultVar -> Option (List EV)
 | [] => some []
 | x :: xs => match resE T fr H x, resL T fr H xs with
   | some y, some ys => some (y :: ys)
   | _, _ => none
def asF : List EV -> FV
 | [x] => .e x
 | l => .tup l
def resS (tmps : Array Value) : ResultVar -> Sem Value
 | .tmp t => pure (tmps.getD t undef)
 | .cell a t => do loadVar t (<- asAddr (tmps.getD a undef))
theorem results_eq (fn : Func) (tmps : Array Value) : results fn tmps = (do let vs <- fn.results.mapM (resS tmps); pure (if h : vs.size = 1 then vs[0] else .tuple vs)) := by
 have : (fun | .tmp t => pure (tmps.getD t undef) | .cell a t => (do loadVar t (<- asAddr (tmps.getD a undef))) : ResultVar -> Sem Value) = resS tmps := by
  funext x; cases x <;> rfl
 rw [<- this]
 rfl
theorem loadF_pre {ti : TI} {m : Nat} {g : Nat -> CV} {rd : List Nat} {sr : SR} (h : loadF ti m g false none rd = some sr) (h1 : ti.size <= m) (h2 : 0 < m) : preOk sr.pre := by
 unfold loadF at h
 split at h
 . injection h with h; subst h; exact h1
 . injection h with h; subst h; exact h1
 . rw [CV.see_eq] at h; injection h with h; subst h; exact h2
theorem resE_ok (hT : TysOk P T) {r : Ren} {H : Hp} {w : World} {fr : Fr} {tmps : Array Value} (st : St cx r H w) (hf : FrOk cx r H w fr tmps) {x : ResultVar} {y : EV} (h : resE T fr H x = some y) :
 ∃ v, (resS tmps x).run P w = .ok v w /\ y.rel r cx.X (wr r H) w v := by
 cases x with
 | tmp t =>
   simp only [resE] at h
   split at h
   . rename_i z hz
     injection h with h
     subst h
     have := hf t
     rw [hz] at this
     exact ⟨_, rfl, this⟩
   . cases h
 | cell a t =>
   simp only [resE] at h
   split at h
   . rename_i ti k i j sym ht ha
     split at h
     . rename_i et en es v ef he
       cases hb : (Nat.ble (j + ti.size) es && Nat.blt j es && Nat.blt i en) with
       | false => rw [hb] at h; cases h
       | true =>
         rw [hb, cond_true] at h
         simp only [Bool.and_eq_true] at hb
         have b1 := Nat.le_of_ble_eq_true hb.1.1
         have b2 : j < es := Nat.le_of_ble_eq_true hb.1.2
         have b3 : i < en := Nat.le_of_ble_eq_true hb.2
         split at h
         . rename_i p z eff rd hl
           injection h with h
           subst h
           have hav := hf a
           rw [ha] at hav
           obtain ⟨b, hbn, hv⟩ := hav
           obtain ⟨v, g1, g2, g3⟩ := load_ok (P := P) (b := b.b) (off := i * b.sz + j) (hT t ti ht) hl (loadF_pre hl (by omega) (by omega)) (fun _ q hq => by
            obtain ⟨u, hu, hr⟩ := blk_cell st he hbn (i := i) (j := j + q) b3 (show j + q < es by omega)
            exact ⟨u, by rw [Nat.add_assoc]; exact hu, hr⟩)
           refine ⟨v, ?_, g3⟩
           simp only [resS, Sem.run_bind, hv, asAddr, Sem.run_pure, Result.andThen_ok, g1]
         . cases h
     . cases h
   . cases h
theorem resL_ok (hT : TysOk P T) {r : Ren} {H : Hp} {w : World} {fr : Fr} {tmps : Array Value} (st : St cx r H w) (hf : FrOk cx r H w fr tmps) : ∀ (rv : List ResultVar) (l : List EV), resL T fr H rv = some l ->
 ∃ vs : List Value, (rv.mapM (resS tmps)).run P w = .ok vs w /\ vs.length = l.length /\ ∀ (i : Nat) x u, l[i]? = some x -> vs[i]? = some u -> x.rel r cx.X (wr r H) w u := by
 intro rv
 induction rv with
 | nil =>
   intro l h
   simp only [resL, Option.some.injEq] at h
   subst h
   exact ⟨[], rfl, rfl, fun i x u h => by cases i <;> cases h⟩
 | cons x xs ih =>
   intro l h
   simp only [resL] at h
   split at h
   . rename_i y ys h1 h2
     injection h with h
     subst h
     obtain ⟨v, g1, g2⟩ := resE_ok hT st hf h1
     obtain ⟨vs, g3, g4, g5⟩ := ih ys h2
     refine ⟨v :: vs, ?_, by simp [g4], fun i z u hz hu => ?_⟩
     . rw [List.mapM_cons]
       simp only [Sem.run_bind, g1, g3, Result.andThen_ok, Sem.run_pure]
     . cases i with
       | zero => simp only [List.getElem?_cons_zero, Option.some.injEq] at hz hu; subst hz hu; exact g2
       | succ i => exact g5 i z u (by simpa using hz) (by simpa using hu)
   . cases h
theorem results_ok (hT : TysOk P T) {r : Ren} {H : Hp} {w : World} {fr : Fr} {tmps : Array Value} (st : St cx r H w) (hf : FrOk cx r H w fr tmps) {fn : Func} {l : List EV} (h : resL T fr H fn.results.toList = some l) :
 ∃ v, (results fn tmps).run P w = .ok v w /\ (asF l).rel r cx.X (wr r H) w v := by
 obtain ⟨vs, h1, h2, h3⟩ := resL_ok hT st hf _ _ h
 have hm : (fn.results.mapM (resS tmps)).run P w = .ok vs.toArray w := by
  rw [Array.mapM_eq_mapM_toList, Sem.run_map, h1]
  rfl
 rw [results_eq, Sem.run_bind, hm, Result.andThen_ok, Sem.run_pure]
 refine ⟨_, rfl, ?_⟩
 match l, vs, h2 with
 | [x], [v], _ => exact h3 0 x v rfl rfl
 | [], [], _ => exact ⟨#[], rfl, rfl, fun i x u h => by cases i <;> cases h⟩
 | x :: y :: l, v :: u :: vs, h2 =>
   rw [dif_neg (by simp)]
   exact ⟨_, rfl, by simpa using h2, fun i z q hz hq => h3 i z q hz (by simpa using hq)⟩
def argFr : List FV -> Nat -> Fr
 | [], _ => []
 | x :: xs, i => (i, x) :: argFr xs (i + 1)
theorem argFr_get : ∀ (args : List FV) (i t : Nat), fget (argFr args i) t = if i <= t then (args[t - i]?).getD .top else .top := by
 intro args
 induction args with
 | nil => intro i t; simp [argFr, fget, look]
 | cons x xs ih =>
   intro i t
   by_cases h : t = i
   . subst h
     have : fget (argFr (x :: xs) t) t = x := look_cons_eq _ _ _ _
     rw [this]; simp
   . have : fget (argFr (x :: xs) i) t = fget (argFr xs (i + 1)) t := look_cons_ne _ _ _ h
     rw [this, ih]
     by_cases h2 : i + 1 <= t
     . rw [if_pos h2, if_pos (by omega), show t - i = (t - (i + 1)) + 1 by omega]; simp
     . rw [if_neg h2, if_neg (by omega)]
def endH (T : Tys) (rv : List ResultVar) (post : FV -> Hp -> Nat -> Prop) : Kt
 | .ret, fr, H, nx => match resL T fr H rv with
   | some l => post (asF l) H nx
   | none => False
 | .normal, fr, H, nx => match resL T fr H rv with
   | some l => post (asF l) H nx
   | none => False
 | _, _, _, _ => False
theorem fn_run (hwd : 0 < wd) (hT : TysOk P T) (hQ : QsOk P Q) (hm : P.follows .mixedOrders = true) {f : FuncId} {fn : Func} {c : Code} (hf : P.funcs[f]? = some fn) (hb : fn.body = some c) {args : List FV} (hn : args.length <= fn.ntmps) {H0 : Hp} {post : FV -> Hp -> Nat -> Prop}
 (h : exec T Q wd fn.ntmps np c (argFr args 0) H0 np (endH T fn.results.toList post)) (hpin : ∀ k b, cx.pin k = some b -> k < np) {r : Ren} {w : World} {vals : Array Value} (st : St cx r H0 w) (hrel : RelL r cx.X (wr r H0) w args vals) (hnm : ∀ k, np <= k -> r k = none /\ hget H0 k = none) :
 Calls P f vals w fun e w' => ∃ v r' x Hf nf, e = .returned v /\ post x Hf nf /\ St cx r' Hf w' /\ (∀ k, nf <= k -> r' k = none /\ hget Hf k = none) /\ x.rel r' cx.X (wr r' Hf) w' v /\ ∀ k, k < np -> r' k = r k := by
 refine calls_of_wp hf hb ?_
 have hsz : vals.size = args.length := hrel.1
 have fr0 : FrOk cx r H0 w (argFr args 0) (vals ++ Array.replicate (fn.ntmps - vals.size) undef) := by
  intro t
  rw [argFr_get, if_pos (Nat.zero_le _), Nat.sub_zero]
  cases hx : args[t]? with
  | none => trivial
  | some x =>
    have hlt : t < vals.size := by rw [hsz]; exact (List.getElem?_eq_some_iff.1 hx).1
    have hv : vals[t]? = some vals[t] := Array.getElem?_eq_getElem hlt
    have e1 : (vals ++ Array.replicate (fn.ntmps - vals.size) undef).getD t undef = vals[t] := by
     rw [Array.getD_eq_getD_getElem?, Array.getElem?_append_left hlt, hv]; rfl
    rw [e1]
    exact hrel.2 t x _ hx hv
 refine wp_mono (exec_ok (fx := r) hwd hT hQ hm hpin c _ _ _ _ h _ w ⟨_, st, fr0, hnm, by simp; omega, rfl, Nat.le_refl _, fun _ _ => rfl⟩) fun e a' w' hq => ?_
 obtain ⟨fr, H, nx, hk, r', st', hfr, hnm', _, hdf, _, hfx'⟩ := hq
 have main : ∀ l, resL T fr H fn.results.toList = some l -> post (asF l) H nx -> a'.defers = [] /\ ∃ v, (results fn a'.tmps).run P w' = .ok v w' /\ ∃ u r' x Hf nf, Ending.returned v = .returned u /\ post x Hf nf /\ St cx r' Hf w' /\ (∀ k, nf <= k -> r' k = none /\ hget Hf k = none) /\ x.rel r' cx.X (wr r' Hf) w' u /\ ∀ k, k < np -> r' k = r k := by
  intro l hl hp
  obtain ⟨v, g1, g2⟩ := results_ok hT st' hfr hl
  exact ⟨hdf, v, g1, v, r', _, H, nx, rfl, hp, st', hnm', g2, hfx'⟩
 cases e with
 | ret =>
   simp only [endH] at hk
   split at hk
   . rename_i l hl; exact main l hl hk
   . exact hk.elim
 | normal =>
   simp only [endH] at hk
   split at hk
   . rename_i l hl; exact main l hl hk
   . exact hk.elim
 | exit => exact hk.elim
 | goto => exact hk.elim
 | panic => exact hk.elim
 | outgrown => exact hk.elim
end
end Go.Proofs.Ytfaibcgakcmhcaa.AX
namespace Go.Proofs.Ytfaibcgakcmhcaa.AX
section
variable {c : Wc}
theorem wr_sub (hl : c.Live) {cx : Cx} {r : Ren} {b : Nat} (h : AX.wr (c.ren r) c.H' b) : AX.wr r c.H b := by
 obtain ⟨k, e', x, he, hx, rfl⟩ := h
 unfold Wc.ren at hx
 split at hx
 . rename_i k0 hk0
   obtain ⟨e, hh⟩ := hl k e' he k0 hk0
   exact ⟨k0, e, x, hh, hx, rfl⟩
 . cases hx
theorem leC_int {k : IntKind} {a b : Int} (h : a = b) : LeC c (.int k a) (.int k b) := fun _ cx r w v _ hv => by subst h; exact hv
theorem leC_bool {a b : Bool} (h : a = b) : LeC c (.bool a) (.bool b) := fun _ cx r w v _ hv => by subst h; exact hv
theorem leC_nils : LeC c .nils .nils := fun _ cx r w v _ hv => hv
theorem leC_top {x : CV} : LeC c x .top := fun _ cx r w v _ hv => rel_isCell hv
theorem ren_src {r : Ren} {k k' : Nat} (h : c.src k' = some k) : c.ren r k' = r k := by unfold Wc.ren; rw [h]
theorem leC_ptr {k k' i j : Nat} {s s' : Bool} (h : c.src k' = some k) : LeC c (.ptr k i j s) (.ptr k' i j s') := fun _ cx r w v _ ⟨b, hb, hv⟩ => ⟨b, ⟨by rw [ren_src h]; exact hb.1, hb.2⟩, hv⟩
theorem leC_os {k k' i n n' : Nat} (h : c.src k' = some k) (hn : n = n') : LeC c (.os k i n) (.os k' i n') := by
 subst hn
 rintro _ cx r w v _ ⟨a, cap, rfl, h1, h2⟩
 refine ⟨a, cap, rfl, h1, fun h0 => ?_⟩
 obtain ⟨x, hx, h3⟩ := h2 h0
 exact ⟨x, ⟨by rw [ren_src h]; exact hx.1, hx.2⟩, h3⟩
theorem leC_nils_os {k' n : Nat} (hn : n = 0) : LeC c .nils (.os k' 0 n) := by
 subst hn
 intro _ cx r w v _ hv
 have : v = .slice none 0 0 := hv
 subst this
 exact ⟨none, 0, rfl, Nat.le_refl _, fun h => absurd h (Nat.lt_irrefl _)⟩
theorem leC_nils_sl {sh : Bool} {n sz : Nat} {f : Nat -> Nat -> CV} (hn : n = 0) : LeC c .nils (.sl sh n sz f) := by
 subst hn
 intro _ cx r w v _ hv
 have : v = .slice none 0 0 := hv
 subst this
 exact ⟨none, 0, rfl, Nat.le_refl _, fun h => absurd h (Nat.lt_irrefl _)⟩
theorem leC_sl {sh sh' : Bool} {n n' sz sz' : Nat} {f g : Nat -> Nat -> CV} (hs : (sh' || c.fin) = true -> sh = true) (hn : n = n') (hz : sz = sz') (h : ∀ i, i < n -> ∀ j, j < sz -> LeC c (f i j) (g i j)) : LeC c (.sl sh n sz f) (.sl sh' n' sz' g) := by
 subst hn hz
 rintro hl cx r w v st ⟨a, cap, rfl, h1, h3⟩
 refine ⟨a, cap, rfl, h1, fun h0 => ?_⟩
 obtain ⟨ad, rfl, hsp, ho, hX, hlt, hc⟩ := h3 h0
 refine ⟨ad, rfl, hsp, ?_, fun h => hX (hs (by rw [h]; rfl)), hlt, fun i hi j hj => ?_⟩
 . rintro (hw | ⟨hf, hx⟩)
   . exact ho (wr_sub (cx := cx) hl hw)
   . exact hX (hs (by rw [hf]; simp)) hx
 . obtain ⟨u, hu, hr⟩ := hc i hi j hj
   exact ⟨u, hu, h i hi j hj hl cx r w u st hr⟩
def Wc.dead (c : Wc) (k : Nat) : Bool := !((srcs c c.H').any (Nat.beq k))
theorem leC_os_sl {sh : Bool} {k i n n' sz : Nat} {f : Nat -> Nat -> CV} {e : Ent} (he : hget c.H k = some e) (hd : c.dead k = true) (hz : e.sz = sz) (hn : n = n') (hle : i + n <= e.n) (h : ∀ q, q < n -> ∀ j, j < sz -> LeC c (e.f (i + q) j) (f q j)) : LeC c (.os k i n) (.sl sh n' sz f) := by
 subst hn hz
 rintro hl cx r w v st ⟨a, cap, rfl, h1, h2⟩
 refine ⟨a, cap, rfl, h1, fun h0 => ?_⟩
 obtain ⟨x, ⟨hx, hx0⟩, rfl, h4⟩ := h2 (by omega)
 obtain ⟨g1, g2, g3⟩ := st.blk k e he
 rcases g3 with ⟨g3, _⟩ | ⟨y, cs, c1, c2, c3, c4, c5, c6⟩ | ⟨_, y, _, _, c1, c2, _⟩
 . rw [hx] at g3; cases g3
 . rw [hx] at c1; injection c1 with c1; subst c1
   obtain ⟨d1, d2, d3⟩ := st.dom k x hx
   refine ⟨⟨x.b, i * x.sz, none⟩, rfl, rfl, ?_, fun _ => d3, d1, fun q hq j hj => ?_⟩
   . rintro (⟨k', e', y, he', hy, hyb⟩ | ⟨_, hX⟩)
     . unfold Wc.ren at hy
       split at hy
       . rename_i k0 hk0
         obtain ⟨e0, hh⟩ := hl k' e' he' k0 hk0
         have := st.inj k0 k e0 e y x hh he hy hx hyb
         subst this
         have hm := srcs_mem hk0 he'
         have : (srcs c c.H').any (Nat.beq k0) = true := List.any_eq_true.2 ⟨k0, hm, by simp⟩
         unfold Wc.dead at hd
         rw [this] at hd; cases hd
       . cases hy
     . exact d3 hX
   . have hlt : (i + q) * e.sz + j < cs.size := by
      rw [c4, c2]
      exact idx_lt (show i + q < e.n by omega) hj c5
     refine ⟨cs[(i + q) * e.sz + j], ?_, h q hq j hj hl cx r w _ st (c6 (i + q) (by omega) j hj _ (Array.getElem?_eq_getElem hlt))⟩
     have e1 : i * x.sz + (q * e.sz + j) = (i + q) * e.sz + j := by rw [c2, Nat.add_mul]; omega
     show w.cell? ⟨x.b, i * x.sz + (q * e.sz + j), none⟩ = _
     rw [e1]
     simp [World.cell?, c3, Array.getElem?_eq_getElem hlt]
 . rw [hx] at c1; injection c1 with c1; subst c1; omega
theorem leE_c {x y : CV} (h : LeC c x y) : LeE c (.c x) (.c y) := h
theorem leE_agg {n m : Nat} {f g : Nat -> CV} (hn : n = m) (h : ∀ i, i < n -> LeC c (f i) (g i)) : LeE c (.agg n f) (.agg m g) := by
 subst hn
 rintro hl cx r w v st ⟨cs, rfl, hs, hc⟩
 exact ⟨cs, rfl, hs, fun i u hu => h i (by rw [<- hs]; exact (Array.getElem?_eq_some_iff.1 hu).1) hl cx r w u st (hc i u hu)⟩
theorem leF_e {x y : EV} (h : LeE c x y) : LeF c (.e x) (.e y) := h
theorem leF_c {x y : CV} (h : LeC c x y) : LeF c (.e (.c x)) (.e (.c y)) := h
theorem leF_int {k : IntKind} {a b : Int} (h : a = b) : LeF c (.e (.c (.int k a))) (.e (.c (.int k b))) := leC_int (c := c) h
theorem leF_bool {a b : Bool} (h : a = b) : LeF c (.e (.c (.bool a))) (.e (.c (.bool b))) := leC_bool (c := c) h
theorem leF_ptr {k k' i j : Nat} {s s' : Bool} (h : c.src k' = some k) : LeF c (.e (.c (.ptr k i j s))) (.e (.c (.ptr k' i j s'))) := leC_ptr (c := c) (s := s) (s' := s') h
def LeL (c : Wc) : List EV -> List EV -> Prop
 | [], [] => True
 | x :: l, y :: l' => LeE c x y /\ LeL c l l'
 | _, _ => False
theorem LeL.at : ∀ {l l' : List EV}, LeL c l l' -> l.length = l'.length /\ ∀ (i : Nat) x y, l[i]? = some x -> l'[i]? = some y -> LeE c x y := by
 intro l
 induction l with
 | nil =>
   intro l' h
   cases l' with
   | nil => exact ⟨rfl, fun i x y h => by cases i <;> cases h⟩
   | cons => exact h.elim
 | cons x l ih =>
   intro l' h
   cases l' with
   | nil => exact h.elim
   | cons y l' =>
     obtain ⟨h1, h2⟩ := h
     obtain ⟨h3, h4⟩ := ih h2
     refine ⟨by simp [h3], fun i a b ha hb => ?_⟩
     cases i with
     | zero => simp only [List.getElem?_cons_zero, Option.some.injEq] at ha hb; subst ha hb; exact h1
     | succ i => exact h4 i a b (by simpa using ha) (by simpa using hb)
theorem leF_tup {l l' : List EV} (h : LeL c l l') : LeF c (.tup l) (.tup l') := by
 obtain ⟨h1, h2⟩ := h.at
 rintro hl cx r w v st ⟨vs, rfl, hs, hc⟩
 refine ⟨vs, rfl, by rw [hs, h1], fun i y u hy hu => ?_⟩
 have hi : i < l.length := by rw [h1]; exact (List.getElem?_eq_some_iff.1 hy).1
 exact h2 i _ y (List.getElem?_eq_getElem hi) hy hl cx r w u st (hc i _ u (List.getElem?_eq_getElem hi) hu)
def allLt : Nat -> (Nat -> Prop) -> Prop
 | 0, _ => True
 | n + 1, p => allLt n p /\ p n
theorem allLt_at {p : Nat -> Prop} : ∀ {n : Nat}, allLt n p -> ∀ i, i < n -> p i := by
 intro n
 induction n with
 | zero => intro _ i h; omega
 | succ n ih =>
   intro h i hi
   by_cases he : i = n
   . subst he; exact h.2
   . exact ih h.1 i (by omega)
theorem leE_all {n : Nat} {f g : Nat -> CV} (h : allLt n fun i => LeC c (f i) (g i)) : LeE c (.agg n f) (.agg n g) := leE_agg rfl (allLt_at h)
theorem leN_var {t : TypeId} {sz : Nat} {f g : Nat -> Nat -> CV} (h : allLt sz fun j => LeC c (f 0 j) (g 0 j)) : LeN c ⟨t, 1, sz, true, f⟩ ⟨t, 1, sz, true, g⟩ :=
 ⟨rfl, rfl, rfl, rfl, fun i hi j hj => by have h1 : i < 1 := hi; have : i = 0 := by omega
                                          subst this; exact allLt_at h j hj⟩
theorem leN_varA {t : TypeId} {sz : Nat} {f g : Nat -> Nat -> CV} (h : ∀ j, j < sz -> LeC c (f 0 j) (g 0 j)) : LeN c ⟨t, 1, sz, true, f⟩ ⟨t, 1, sz, true, g⟩ :=
 ⟨rfl, rfl, rfl, rfl, fun i hi j hj => by have h1 : i < 1 := hi; have : i = 0 := by omega
                                          subst this; exact h j hj⟩
theorem leN_row {t : TypeId} {n n' sz : Nat} {f g : Nat -> Nat -> CV} (hn : n = n') (h : ∀ i, i < n -> ∀ j, j < sz -> LeC c (f i j) (g i j)) : LeN c ⟨t, n, sz, false, f⟩ ⟨t, n', sz, false, g⟩ := ⟨rfl, hn, rfl, rfl, h⟩
def Cl (x : CV) : Prop := ∀ c : Wc, c.fin = false -> LeC c x x
theorem cl_sl {sh : Bool} {n sz : Nat} {f : Nat -> Nat -> CV} (h : ∀ i, i < n -> ∀ j, j < sz -> Cl (f i j)) : Cl (.sl sh n sz f) := fun c hc => leC_sl (by rw [hc]; cases sh <;> simp) rfl rfl fun i hi j hj => h i hi j hj c hc
theorem leF_cl {H H' : Hp} {rho : List (Nat × Option Nat)} {nx : Nat} {x : CV} (h : Cl x) : LeF ⟨H, H', rho, nx, false⟩ (.e (.c x)) (.e (.c x)) := h _ rfl
theorem leC_cl {H H' : Hp} {rho : List (Nat × Option Nat)} {nx : Nat} {x : CV} (h : Cl x) : LeC ⟨H, H', rho, nx, false⟩ x x := h _ rfl
end
theorem CV.rel_into {X' Y X W : Nat -> Prop} {r : Ren} {w : World} (hX : ∀ b, X b -> Y b) (hW : ∀ b, W b -> Y b) : ∀ (x : CV) (v : Value), x.rel (fun _ => none) X' Y w v -> x.rel r X W w v := by
 intro x
 induction x with
 | top => intro v h; exact h
 | int => intro v h; exact h
 | bool => intro v h; exact h
 | ptr nm i j s => rintro v ⟨x, hx, _⟩; cases hx.1
 | mp nm => rintro v ⟨x, hx, _⟩; cases hx
 | nilp => intro v h; exact h
 | nils => intro v h; exact h
 | sl sh n sz f ih =>
   rintro v ⟨a, cap, rfl, h1, h2⟩
   refine ⟨a, cap, rfl, h1, fun h0 => ?_⟩
   obtain ⟨ad, rfl, hs, ho, _, hlt, hc⟩ := h2 h0
   refine ⟨ad, rfl, hs, fun h => ho (hW _ h), fun _ h => ho (hX _ h), hlt, fun i hi j hj => ?_⟩
   obtain ⟨u, hu, hr⟩ := hc i hi j hj
   exact ⟨u, hu, ih i j u hr⟩
 | rp sh m g ih =>
   rintro v ⟨ad, rfl, hs, ho, _, hlt, hc⟩
   refine ⟨ad, rfl, hs, fun h => ho (hW _ h), fun _ h => ho (hX _ h), hlt, fun j hj => ?_⟩
   obtain ⟨u, hu, hr⟩ := hc j hj
   exact ⟨u, hu, ih j u hr⟩
 | os nm i n =>
   rintro v ⟨a, cap, rfl, h1, h2⟩
   refine ⟨a, cap, rfl, h1, fun h0 => ?_⟩
   obtain ⟨x, hx, _⟩ := h2 h0; cases hx.1
 | oa nm i j n es =>
   rintro v ⟨a, cap, rfl, h1, h2⟩
   refine ⟨a, cap, rfl, h1, fun h0 => ?_⟩
   obtain ⟨x, hx, _⟩ := h2 h0; cases hx.1
 | fn f n m a ih =>
   rintro v ⟨fs, cs, rfl, h1, h2, h3, h4⟩
   exact ⟨fs, cs, rfl, h1, h2, fun k u hu => ih k u (h3 k u hu), fun k u hu => ih _ u (h4 k u hu)⟩
theorem EV.rel_into {X' Y X W : Nat -> Prop} {r : Ren} {w : World} (hX : ∀ b, X b -> Y b) (hW : ∀ b, W b -> Y b) : ∀ (x : EV) (v : Value), x.rel (fun _ => none) X' Y w v -> x.rel r X W w v := by
 intro x v
 cases x with
 | c x => exact CV.rel_into hX hW x v
 | agg n f => rintro ⟨cs, rfl, hs, hc⟩; exact ⟨cs, rfl, hs, fun i u hu => CV.rel_into hX hW _ _ (hc i u hu)⟩
theorem FV.rel_into {X' Y X W : Nat -> Prop} {r : Ren} {w : World} (hX : ∀ b, X b -> Y b) (hW : ∀ b, W b -> Y b) : ∀ (x : FV) (v : Value), x.rel (fun _ => none) X' Y w v -> x.rel r X W w v := by
 intro x v
 cases x with
 | top => exact fun _ => trivial
 | e x => exact EV.rel_into hX hW x v
 | tup l => rintro ⟨vs, rfl, hs, hc⟩; exact ⟨vs, rfl, hs, fun i x u hx hu => EV.rel_into hX hW _ _ (hc i x u hx hu)⟩
theorem runR_mono {T : Tys} {Q : Qs} (hM : QsMono Q) {wd nt : Nat} {all : List Oper} {K K' : Fr -> Hp -> Nat -> Log -> Prop} (hK : ∀ fr H nx log, K fr H nx log -> K' fr H nx log) : ∀ (os : List Oper) (i : Nat) (fr : Fr) (H : Hp) (nx : Nat) (log : Log),
 runR T Q wd nt all os i fr H nx log K -> runR T Q wd nt all os i fr H nx log K' := by
 intro os
 induction os with
 | nil => intro i fr H nx log h; exact hK _ _ _ _ h
 | cons o os ih =>
   intro i fr H nx log h
   unfold runR at h ⊢
   cases hd : okDst nt o.dst with
   | false => rw [hd] at h; exact h.elim
   | true =>
     rw [hd, cond_true] at h
     rw [cond_true]
     split at h
     . split at h
       . split at h
         . exact hM _ _ _ _ _ _ (by assumption) _ _ (fun v e rd hh => ih _ _ _ _ _ hh) h
         . exact h.elim
       . split at h
         . split at h
           . exact ih _ _ _ _ _ h
           . exact ⟨h.1, ih _ _ _ _ _ h.2⟩
           . exact ⟨fun e => ih _ _ _ _ _ (h.1 e), fun e => ih _ _ _ _ _ (h.2 e)⟩
           . exact ⟨h.1, fun e => ih _ _ _ _ _ (h.2.1 e), fun e => ih _ _ _ _ _ (h.2.2 e)⟩
           . exact h.elim
         . exact h.elim
     . exact ih _ _ _ _ _ h
     . exact h.elim
theorem seqK_mono {n n' : Fr -> Hp -> Nat -> Prop} {K K' : Kt} (hn : ∀ fr H nx, n fr H nx -> n' fr H nx) (hK : ∀ e fr H nx, K e fr H nx -> K' e fr H nx) : ∀ e fr H nx, seqK n K e fr H nx -> seqK n' K' e fr H nx := by
 intro e fr H nx h
 cases e <;> first | exact hn _ _ _ h | exact hK _ _ _ _ h
theorem blkK_mono {id : Nat} {K K' : Kt} (hK : ∀ e fr H nx, K e fr H nx -> K' e fr H nx) : ∀ e fr H nx, blkK id K e fr H nx -> blkK id K' e fr H nx := by
 intro e fr H nx h
 cases e with
 | exit id' =>
   have h' : (bif Nat.beq id' id then K .normal fr H nx else K (.exit id') fr H nx) := h
   show (bif Nat.beq id' id then K' .normal fr H nx else K' (.exit id') fr H nx)
   cases hb : Nat.beq id' id with
   | true => rw [hb] at h'; exact hK _ _ _ _ h'
   | false => rw [hb] at h'; exact hK _ _ _ _ h'
 | normal => exact hK _ _ _ _ h
 | goto l => exact hK _ _ _ _ h
 | ret => exact hK _ _ _ _ h
 | panic c => exact hK _ _ _ _ h
 | outgrown => exact hK _ _ _ _ h
theorem iter_mono {np : Nat} {R : Fr -> Hp -> Nat -> Kt -> Prop} (hR : ∀ K K' : Kt, (∀ e fr H nx, K e fr H nx -> K' e fr H nx) -> ∀ fr H nx, R fr H nx K -> R fr H nx K') {K K' : Kt} (hK : ∀ e fr H nx, K e fr H nx -> K' e fr H nx) :
 ∀ n fr H nx, iter np R K n fr H nx -> iter np R K' n fr H nx := by
 intro n
 induction n with
 | zero => intro fr H nx h; exact h
 | succ n ih =>
   intro fr H nx h
   obtain ⟨fr', H', rho, nx', h0, hrho, h1, h2, h3⟩ := h
   exact ⟨fr', H', rho, nx', h0, hrho, h1, h2, hR _ _ (seqK_mono ih hK) _ _ _ h3⟩
theorem exec_mono {T : Tys} {Q : Qs} (hM : QsMono Q) {wd nt np : Nat} : ∀ (c : Code) (K K' : Kt), (∀ e fr H nx, K e fr H nx -> K' e fr H nx) -> ∀ fr H nx, exec T Q wd nt np c fr H nx K -> exec T Q wd nt np c fr H nx K' := by
 intro c
 induction c with
 | skip => intro K K' hK fr H nx h; exact hK _ _ _ _ h
 | region id ops draw =>
   intro K K' hK fr H nx0 h
   unfold exec at h ⊢
   refine runR_mono hM (fun fr H nx log h => ?_) _ _ _ _ _ _ h
   cases hb : (!draw || regOkA ops.toList log.reverse) with
   | true => rw [hb] at h; exact hK _ _ _ _ h
   | false =>
     rw [hb, cond_false] at h
     show litK _ _ _ _ _ _ _ _
     unfold litK at h ⊢
     split at h
     . rename_i L hL
       cases hlo : litOk T ops.toList L fr log.reverse nx0 with
       | true => rw [hlo] at h; exact hK _ _ _ _ h
       | false => rw [hlo] at h; exact h.elim
     . exact h.elim
 | seq a b iha ihb =>
   intro K K' hK fr H nx h
   exact iha _ _ (seqK_mono (fun fr H nx h => ihb _ _ hK _ _ _ h) hK) _ _ _ h
 | cond c a b iha ihb =>
   intro K K' hK fr H nx h
   unfold exec at h ⊢
   split at h
   . exact ⟨fun e => iha _ _ hK _ _ _ (h.1 e), fun e => ihb _ _ hK _ _ _ (h.2 e)⟩
   . exact h.elim
 | block id c ih => intro K K' hK fr H nx h; exact ih _ _ (blkK_mono hK) _ _ _ h
 | loop c ih =>
   intro K K' hK fr H nx h
   obtain ⟨n, hn⟩ := h
   exact ⟨n, iter_mono (fun K K' hk fr H nx h => ih K K' hk fr H nx h) hK n _ _ _ hn⟩
 | exit id => intro K K' hK fr H nx h; exact hK _ _ _ _ h
 | ret => intro K K' hK fr H nx h; exact hK _ _ _ _ h
 | label l => intro K K' hK fr H nx h; exact hK _ _ _ _ h
 | rangeFunc => intro K K' hK fr H nx h; exact h.elim
 | scope => intro K K' hK fr H nx h; exact h.elim
 | goto => intro K K' hK fr H nx h; exact h.elim
 | refuse => intro K K' hK fr H nx h; exact h.elim
structure Hd where
 fr : Fr
 H : Hp
 nx : Nat
def To {σ : Type} (S : σ -> Hd) (np : Nat) (fr : Fr) (H : Hp) (s : σ) (rho : List (Nat × Option Nat)) : Prop :=
 rhoOk np ⟨H, (S s).H, rho, (S s).nx, false⟩ = true /\ WkF ⟨H, (S s).H, rho, (S s).nx, false⟩ fr (S s).fr /\ WkH ⟨H, (S s).H, rho, (S s).nx, false⟩ (S s).H
def Goes {σ : Type} (S : σ -> Hd) (μ : σ -> Nat) (np m : Nat) (fr : Fr) (H : Hp) : Prop := ∃ s rho, μ s < m /\ To S np fr H s rho
theorem loop_intro {T : Tys} {Q : Qs} (hM : QsMono Q) {wd nt np : Nat} {c : Code} {K : Kt} {σ : Type} (S : σ -> Hd) (μ : σ -> Nat) (hnp : ∀ s, Nat.ble np (S s).nx = true)
 (hround : ∀ s, exec T Q wd nt np c (S s).fr (S s).H (S s).nx (seqK (fun fr H _ => Goes S μ np (μ s) fr H) K)) {fr : Fr} {H : Hp} {nx : Nat} (s0 : σ) (rho : List (Nat × Option Nat)) (h0 : To S np fr H s0 rho) :
 ∃ n, iter np (exec T Q wd nt np c) K n fr H nx := by
 have key : ∀ m s rho fr H nx, μ s < m -> To S np fr H s rho -> iter np (exec T Q wd nt np c) K m fr H nx := by
  intro m
  induction m with
  | zero => intro s rho fr H nx h; omega
  | succ m ih =>
    intro s rho fr H nx hm h1
    refine ⟨(S s).fr, (S s).H, rho, (S s).nx, hnp s, h1.1, h1.2.1, h1.2.2, exec_mono hM c _ _ (seqK_mono (fun fr H nx h => ?_) (fun _ _ _ _ h => h)) _ _ _ (hround s)⟩
    obtain ⟨s', rho', h3, h4⟩ := h
    exact ih s' rho' fr H nx (by omega) h4
 exact ⟨μ s0 + 1, key _ s0 rho _ _ _ (by omega) h0⟩
def QR (P : Program) : Qs := fun f args H nm wd => some fun K => ∃ v e rd, CallR P f args H nm wd ⟨none, v, e, rd⟩ /\ K v e rd
theorem QR_ok (P : Program) : QsOk P (QR P) := by
 intro f args H nm wd q _ h K hK
 injection h with h
 subst h
 exact hK
theorem runR_det {P : Program} {T : Tys} {Q : Qs} {wd nt : Nat} (hwd : 0 < wd) (hQ : QsOk P Q) {all : List Oper} : ∀ (os : List Oper) (i : Nat) (fr : Fr) (H : Hp) (nx : Nat) (log : Log) (K : Fr -> Hp -> Nat -> Log -> Prop), runR T Q wd nt all os i fr H nx log K ->
 ∃ fr' H' nx' log', K fr' H' nx' log' /\ ∀ K' : Fr -> Hp -> Nat -> Log -> Prop, K' fr' H' nx' log' -> runR T (QR P) wd nt all os i fr H nx log K' := by
 intro os
 induction os with
 | nil => intro i fr H nx log K h; exact ⟨fr, H, nx, log, h, fun K' h' => h'⟩
 | cons o os ih =>
   intro i fr H nx log K h
   unfold runR at h
   cases hd : okDst nt o.dst with
   | false => rw [hd] at h; exact h.elim
   | true =>
     rw [hd, cond_true] at h
     split at h
     . rename_i hw
       split at h
       . rename_i f args hc
         split at h
         . rename_i q hq hG
           obtain ⟨v, e, rd, h1, h2⟩ := hQ _ _ _ _ _ _ hwd hq _ h
           obtain ⟨a, b, c, d, hK, hr⟩ := ih _ _ _ _ _ _ h2
           refine ⟨a, b, c, d, hK, fun K' hK' => ?_⟩
           unfold runR
           simp only [hd, cond_true, hw, hc, hG, QR]
           exact ⟨v, e, rd, h1, hr K' hK'⟩
         . exact h.elim
       . rename_i hc
         split at h
         . rename_i pre val eff rd hs
           split at h
           . rename_i hG
             obtain ⟨a, b, c, d, hK, hr⟩ := ih _ _ _ _ _ _ h
             refine ⟨a, b, c, d, hK, fun K' hK' => ?_⟩
             unfold runR
             simp only [hd, cond_true, hw, hs, hc, hG]
             exact hr K' hK'
           . rename_i hG
             obtain ⟨a, b, c, d, hK, hr⟩ := ih _ _ _ _ _ _ h.2
             refine ⟨a, b, c, d, hK, fun K' hK' => ?_⟩
             unfold runR
             simp only [hd, cond_true, hw, hs, hc, hG]
             exact ⟨h.1, hr K' hK'⟩
           . rename_i b hG
             rcases Bool.eq_false_or_eq_true b with hb | hb
             . subst hb
               obtain ⟨a, b, c, d, hK, hr⟩ := ih _ _ _ _ _ _ (h.1 rfl)
               refine ⟨a, b, c, d, hK, fun K' hK' => ?_⟩
               unfold runR
               simp only [hd, cond_true, hw, hs, hc, hG]
               exact ⟨fun _ => hr K' hK', (fun h => nomatch h)⟩
             . subst hb
               obtain ⟨a, b, c, d, hK, hr⟩ := ih _ _ _ _ _ _ (h.2 rfl)
               refine ⟨a, b, c, d, hK, fun K' hK' => ?_⟩
               unfold runR
               simp only [hd, cond_true, hw, hs, hc, hG]
               exact ⟨(fun h => nomatch h), fun _ => hr K' hK'⟩
           . rename_i p b hG
             rcases Bool.eq_false_or_eq_true b with hb | hb
             . subst hb
               obtain ⟨a, b, c, d, hK, hr⟩ := ih _ _ _ _ _ _ (h.2.1 rfl)
               refine ⟨a, b, c, d, hK, fun K' hK' => ?_⟩
               unfold runR
               simp only [hd, cond_true, hw, hs, hc, hG]
               exact ⟨h.1, fun _ => hr K' hK', (fun h => nomatch h)⟩
             . subst hb
               obtain ⟨a, b, c, d, hK, hr⟩ := ih _ _ _ _ _ _ (h.2.2 rfl)
               refine ⟨a, b, c, d, hK, fun K' hK' => ?_⟩
               unfold runR
               simp only [hd, cond_true, hw, hs, hc, hG]
               exact ⟨h.1, (fun h => nomatch h), fun _ => hr K' hK'⟩
           . exact h.elim
         . exact h.elim
     . rename_i hw
       obtain ⟨a, b, c, d, hK, hr⟩ := ih _ _ _ _ _ _ h
       refine ⟨a, b, c, d, hK, fun K' hK' => ?_⟩
       unfold runR
       simp only [hd, cond_true, hw]
       exact hr K' hK'
     . exact h.elim
def Det (R : Kt -> Prop) (K : Kt) : Prop := ∃ e fr H nx, K e fr H nx /\ ∀ K' : Kt, K' e fr H nx -> R K'
theorem exec_det {P : Program} {T : Tys} {Q : Qs} {wd nt np : Nat} (hwd : 0 < wd) (hQ : QsOk P Q) : ∀ (c : Code) (fr : Fr) (H : Hp) (nx : Nat) (K : Kt), exec T Q wd nt np c fr H nx K -> Det (exec T (QR P) wd nt np c fr H nx) K := by
 intro c
 induction c with
 | skip => intro fr H nx K h; exact ⟨_, _, _, _, h, fun K' h' => h'⟩
 | region id ops draw =>
   intro fr H nx K h
   unfold exec at h
   obtain ⟨a, b, c, d, hK, hr⟩ := runR_det hwd hQ _ _ _ _ _ _ _ h
   cases hb : (!draw || regOkA ops.toList d.reverse) with
   | false =>
     rw [hb, cond_false] at hK
     unfold litK at hK
     split at hK
     . rename_i L hL
       cases hlo : litOk T ops.toList L a d.reverse nx with
       | false => rw [hlo] at hK; exact hK.elim
       | true =>
         rw [hlo, cond_true] at hK
         refine ⟨_, _, _, _, hK, fun K' hK' => ?_⟩
         unfold exec
         refine hr _ ?_
         rw [hb, cond_false]
         unfold litK
         rw [hL]
         dsimp only
         rw [hlo]
         exact hK'
     . exact hK.elim
   | true =>
     rw [hb, cond_true] at hK
     refine ⟨_, _, _, _, hK, fun K' hK' => ?_⟩
     unfold exec
     refine hr _ ?_
     rw [hb, cond_true]
     exact hK'
 | seq a b iha ihb =>
   intro fr H nx K h
   unfold exec at h
   obtain ⟨e, fr1, H1, nx1, hK, hr⟩ := iha _ _ _ _ h
   cases e with
   | normal =>
     obtain ⟨e2, fr2, H2, nx2, hK2, hr2⟩ := ihb _ _ _ _ hK
     refine ⟨e2, fr2, H2, nx2, hK2, fun K' hK' => ?_⟩
     unfold exec
     exact hr _ (hr2 K' hK')
   | _ =>
     refine ⟨_, _, _, _, hK, fun K' hK' => ?_⟩
     unfold exec
     exact hr _ hK'
 | cond x a b iha ihb =>
   intro fr H nx K h
   unfold exec at h
   split at h
   . rename_i t ht
     rcases Bool.eq_false_or_eq_true t with hb | hb
     . subst hb
       obtain ⟨e, fr1, H1, nx1, hK, hr⟩ := iha _ _ _ _ (h.1 rfl)
       refine ⟨_, _, _, _, hK, fun K' hK' => ?_⟩
       unfold exec
       rw [ht]
       exact ⟨fun _ => hr K' hK', (fun h => nomatch h)⟩
     . subst hb
       obtain ⟨e, fr1, H1, nx1, hK, hr⟩ := ihb _ _ _ _ (h.2 rfl)
       refine ⟨_, _, _, _, hK, fun K' hK' => ?_⟩
       unfold exec
       rw [ht]
       exact ⟨(fun h => nomatch h), fun _ => hr K' hK'⟩
   . exact h.elim
 | block id c ih =>
   intro fr H nx K h
   unfold exec at h
   obtain ⟨e, fr1, H1, nx1, hK, hr⟩ := ih _ _ _ _ h
   cases e with
   | exit j =>
     cases hb : Nat.beq j id with
     | true =>
       simp only [blkK, hb, cond_true] at hK
       refine ⟨_, _, _, _, hK, fun K' hK' => ?_⟩
       unfold exec
       refine hr _ ?_
       simp only [blkK, hb, cond_true]
       exact hK'
     | false =>
       simp only [blkK, hb, cond_false] at hK
       refine ⟨_, _, _, _, hK, fun K' hK' => ?_⟩
       unfold exec
       refine hr _ ?_
       simp only [blkK, hb, cond_false]
       exact hK'
   | _ =>
     refine ⟨_, _, _, _, hK, fun K' hK' => ?_⟩
     unfold exec
     exact hr _ hK'
 | loop c ih =>
   intro fr H nx K h
   unfold exec at h
   obtain ⟨n, h⟩ := h
   have key : ∀ n fr H nx, iter np (exec T Q wd nt np c) K n fr H nx -> ∃ e fr1 H1 nx1, K e fr1 H1 nx1 /\ ∀ K' : Kt, K' e fr1 H1 nx1 -> ∃ m, iter np (exec T (QR P) wd nt np c) K' m fr H nx := by
    intro n
    induction n with
    | zero => intro fr H nx h; exact h.elim
    | succ n ihn =>
      intro fr H nx h
      obtain ⟨fr', H', rho, nx', h0, hrho, h1, h2, h3⟩ := h
      obtain ⟨e, fr1, H1, nx1, hK, hr⟩ := ih _ _ _ _ h3
      cases e with
      | normal =>
        obtain ⟨e2, fr2, H2, nx2, hK2, hr2⟩ := ihn _ _ _ hK
        refine ⟨e2, fr2, H2, nx2, hK2, fun K' hK' => ?_⟩
        obtain ⟨m, hm⟩ := hr2 K' hK'
        exact ⟨m + 1, fr', H', rho, nx', h0, hrho, h1, h2, hr _ hm⟩
      | _ => exact ⟨_, _, _, _, hK, fun K' hK' => ⟨1, fr', H', rho, nx', h0, hrho, h1, h2, hr _ hK'⟩⟩
   obtain ⟨e, fr1, H1, nx1, hK, hr⟩ := key n _ _ _ h
   refine ⟨e, fr1, H1, nx1, hK, fun K' hK' => ?_⟩
   unfold exec
   exact hr K' hK'
 | exit id => intro fr H nx K h; exact ⟨_, _, _, _, h, fun K' h' => h'⟩
 | ret => intro fr H nx K h; exact ⟨_, _, _, _, h, fun K' h' => h'⟩
 | label l => intro fr H nx K h; exact ⟨_, _, _, _, h, fun K' h' => h'⟩
 | _ => intro fr H nx K h; exact h.elim
theorem exec_some {α : Type} {P : Program} {T : Tys} {Q : Qs} {wd nt np : Nat} (hwd : 0 < wd) (hQ : QsOk P Q) {c : Code} {fr : Fr} {H : Hp} {nx : Nat} {rv : List ResultVar} {post : α -> FV -> Hp -> Nat -> Prop} {S : α -> Prop}
 (h : exec T Q wd nt np c fr H nx (endH T rv fun x Hf nf => ∃ a, S a /\ post a x Hf nf)) : ∃ a, S a /\ exec T (QR P) wd nt np c fr H nx (endH T rv (post a)) := by
 obtain ⟨e, fr1, H1, nx1, hK, hr⟩ := exec_det hwd hQ _ _ _ _ _ h
 have : ∃ a, S a /\ endH T rv (post a) e fr1 H1 nx1 := by
  cases e with
  | ret =>
    simp only [endH] at hK ⊢
    split at hK
    . obtain ⟨a, h1, h2⟩ := hK; exact ⟨a, h1, h2⟩
    . exact hK.elim
  | normal =>
    simp only [endH] at hK ⊢
    split at hK
    . obtain ⟨a, h1, h2⟩ := hK; exact ⟨a, h1, h2⟩
    . exact hK.elim
  | _ => exact hK.elim
 obtain ⟨a, h1, h2⟩ := this
 exact ⟨a, h1, hr _ h2⟩
end Go.Proofs.Ytfaibcgakcmhcaa.AX
namespace Go.Proofs.Ytfaibcgakcmhcaa.AX
open Go.RowKit
abbrev Entry := List FV -> Hp -> Nat -> Nat -> Option Qf
structure EntOk (P : Program) (f : FuncId) (x : Entry) : Prop where
 ok : ∀ args H nm wd q, 0 < wd -> x args H nm wd = some q -> ∀ K, q K -> ∃ v e rd, CallR P f args H nm wd ⟨none, v, e, rd⟩ /\ K v e rd
 mono : ∀ args H nm wd q, x args H nm wd = some q -> ∀ K K' : FV -> Hp -> List Nat -> Prop, (∀ v e rd, K v e rd -> K' v e rd) -> q K -> q K'
abbrev CsL := List (Nat × Option Entry)
def mkQ (l : CsL) : Qs := fun f args H nm wd => match look none l f with
 | some e => e args H nm wd
 | none => none
def AllOk (P : Program) : CsL -> Prop
 | [] => True
 | (_, none) :: l => AllOk P l
 | (f, some g) :: l => EntOk P f g /\ AllOk P l
theorem AllOk.at {P : Program} : ∀ {l : CsL}, AllOk P l -> ∀ f g, look none l f = some g -> EntOk P f g := by
 intro l
 induction l with
 | nil => intro _ f g h; cases h
 | cons p l ih =>
   obtain ⟨k, x⟩ := p
   intro h f g hf
   by_cases hk : f = k
   . subst hk
     rw [look_cons_eq] at hf
     subst hf
     exact h.1
   . rw [look_cons_ne _ _ _ hk] at hf
     cases x with
     | none => exact ih h f g hf
     | some y => exact ih h.2 f g hf
theorem q_of {P : Program} {l : CsL} (h : AllOk P l) : QsOk P (mkQ l) := by
 intro f args H nm wd q hwd hq
 unfold mkQ at hq
 split at hq
 . rename_i g hg
   exact (h.at f g hg).ok args H nm wd q hwd hq
 . cases hq
theorem mono_of {P : Program} {l : CsL} (h : AllOk P l) : QsMono (mkQ l) := by
 intro f args H nm wd q hq
 unfold mkQ at hq
 split at hq
 . rename_i g hg
   exact (h.at f g hg).mono args H nm wd q hq
 . cases hq
def wrBut (r : Ren) (H : Hp) (rd : List Nat) (b : Nat) : Prop := ∃ nm e x, hget H nm = some e /\ r nm = some x /\ x.b = b /\ nm ∉ rd
def Bo (H : Hp) (rd : List Nat) (x y : FV) : Prop := ∀ cx r w v, St cx r H w -> x.rel r cx.X (wr r H) w v -> y.rel (fun _ => none) (fun b => cx.X b \/ wr r H b) (wrBut r H rd) w v
def BoL (H : Hp) (rd : List Nat) (l l' : List FV) : Prop := l.length = l'.length /\ ∀ (i : Nat) x y, l[i]? = some x -> l'[i]? = some y -> Bo H rd x y
theorem FV.rel_w {r : Ren} {X W W' : Nat -> Prop} {w : World} (h : ∀ b, W' b -> W b) (x : FV) (v : Value) (hx : x.rel r X W w v) : x.rel r X W' w v :=
 FV.rel_ext ⟨fun _ _ h => h, Nat.le_refl _, fun _ _ _ => rfl, fun b _ hb => h b hb⟩ x v hx
theorem CV.rel_w {r : Ren} {X W W' : Nat -> Prop} {w : World} (h : ∀ b, W' b -> W b) (x : CV) (v : Value) (hx : x.rel r X W w v) : x.rel r X W' w v :=
 CV.rel_ext ⟨fun _ _ h => h, Nat.le_refl _, fun _ _ _ => rfl, fun b _ hb => h b hb⟩ x v hx
theorem Bo.more {H : Hp} {rd rd' : List Nat} {x y : FV} (h : Bo H rd x y) (hs : ∀ k ∈ rd, k ∈ rd') : Bo H rd' x y := fun cx r w v st hx =>
 FV.rel_w (fun b ⟨nm, e, x, h1, h2, h3, h4⟩ => ⟨nm, e, x, h1, h2, h3, fun h => h4 (hs nm h)⟩) _ _ (h cx r w v st hx)
structure Codec (α : Type) where
 enc : α -> FV
 dec : Hp -> FV -> Option (α × Option Prop × List Nat)
 sound : ∀ H H' x a p rd, dec H x = some (a, p, rd) -> preOk p -> (∀ k ∈ rd, hget H k = hget H' k) -> Bo H' rd x (enc a)
structure AC (α : Type) where
 enc : α -> List FV
 dec : Hp -> List FV -> Option (α × Option Prop × List Nat)
 sound : ∀ H H' l a p rd, dec H l = some (a, p, rd) -> preOk p -> (∀ k ∈ rd, hget H k = hget H' k) -> BoL H' rd l (enc a)
def AC.nil : AC Unit where
 enc _ := []
 dec _ l := match l with
  | [] => some ((), none, [])
  | _ => none
 sound H H' l a p rd h _ _ := by
  split at h
  . exact ⟨rfl, fun i x y h => by cases i <;> cases h⟩
  . cases h
def AC.cons {α β : Type} (c : Codec α) (d : AC β) : AC (α × β) where
 enc a := c.enc a.1 :: d.enc a.2
 dec H l := match l with
  | x :: l => match c.dec H x with
    | some (a, p, rd) => match d.dec H l with
      | some (b, q, rd') => some ((a, b), both p q, rd ++ rd')
      | none => none
    | none => none
  | [] => none
 sound H H' l a p rd h hp hh := by
  split at h
  . rename_i x l
    split at h
    . rename_i a0 p0 rd0 h0
      split at h
      . rename_i b q rd' h1
        injection h with h
        injection h with e1 e2
        injection e2 with e2 e3
        subst e1 e2 e3
        obtain ⟨hp1, hp2⟩ := both_ok.1 hp
        have s1 := c.sound H H' x a0 p0 rd0 h0 hp1 (fun k hk => hh k (List.mem_append_left _ hk))
        obtain ⟨s2, s3⟩ := d.sound H H' l b q rd' h1 hp2 (fun k hk => hh k (List.mem_append_right _ hk))
        refine ⟨by simp [s2], fun i x y hx hy => ?_⟩
        cases i with
        | zero => simp only [List.getElem?_cons_zero, Option.some.injEq] at hx hy; subst hx hy; exact s1.more fun k hk => List.mem_append_left _ hk
        | succ i => exact (s3 i x y (by simpa using hx) (by simpa using hy)).more fun k hk => List.mem_append_right _ hk
      . cases h
    . cases h
  . cases h
def pAnd : Option Prop -> Prop -> Prop
 | none, q => q
 | some p, q => p /\ q
theorem pAnd_iff {p : Option Prop} {q : Prop} : pAnd p q ↔ preOk p /\ q := by cases p <;> simp [pAnd, preOk]
structure Done (H : Hp) (x spec : FV) : Prop where
 le : LeF ⟨H, [], [], 0, true⟩ x spec
def PureOk (P : Program) (f : FuncId) (args : List FV) (spec : FV) : Prop :=
 ∀ X w (vals : Array Value), RelL (fun _ => none) X (fun _ => False) w args vals -> Xw X w -> Calls P f vals w fun e w' => ∃ v, e = .returned v /\ Below w.heap.size w w' /\ spec.rel (fun _ => none) X X w' v
theorem st_xw {cx : Cx} {r : Ren} {H : Hp} {w : World} (st : St cx r H w) : Xw (fun b => cx.X b \/ wr r H b) w := by
 refine ⟨?_, fun p hp => ?_⟩
 . rintro b (hx | ⟨k, e, x, _, hx, rfl⟩)
   . exact Nat.lt_of_lt_of_le (st.xlt.lt b hx) st.size
   . exact (st.dom k x hx).1
 . obtain ⟨h1, h2, h3⟩ := st.xlt.gl p hp
   refine ⟨Nat.lt_of_lt_of_le h1 st.size, ?_, fun j k n hkn => ?_⟩
   . rintro (hx | ⟨k, e, x, he, hx, hb⟩)
     . exact h2 (.inl hx)
     . rcases (st.dom k x hx).2.1 with hd | hd
       . omega
       . exact h2 (.inr (.inl (by rw [<- hb]; exact hd)))
   . rw [<- h3 j k n hkn]
     exact cell_block (st.kept _ h1 fun hE => h2 (.inr (.inr hE)))
theorem glob_more {X Y : Nat -> Prop} {w : World} (h : GlobOk X w) (hY : ∀ p ∈ GL, Y p.1 -> X p.1) : GlobOk Y w := fun p hp => ⟨(h p hp).1, fun hy => (h p hp).2.1 (hY p hp hy), (h p hp).2.2⟩
theorem st_start {w : World} {X : Nat -> Prop} (hX : Xw X w) : St ⟨w, fun _ => False, fun _ => False, X, fun _ => none⟩ (fun _ => none) [] w :=
 ⟨rfl, rfl, rfl, Nat.le_refl _, fun _ _ _ => rfl, ⟨hX.1, glob_more hX.2 fun p _ h => h.elim id fun h => h.elim False.elim False.elim⟩, (fun _ _ h => by cases h), (fun _ _ _ h => by cases h), (fun _ _ _ _ _ _ h => by cases h), (fun _ _ h => by cases h), fun _ _ h => by cases h⟩
theorem wr_nil {r : Ren} : wr r [] = fun _ => False := by
 funext b
 simp [wr, hget, look]
theorem ren_nil {H : Hp} {r : Ren} : Wc.ren ⟨H, [], [], 0, true⟩ r = fun _ => none := by
 funext k
 have : Nat.blt k 0 = false := by
  cases hb : Nat.blt k 0 with
  | false => rfl
  | true => exact absurd (Nat.le_of_ble_eq_true hb) (by omega)
 simp [Wc.ren, Wc.src, lookR, this]
section
variable {P : Program} {T : Tys} {Q : Qs} {wd : Nat}
theorem pure_intro (hwd : 0 < wd) (hT : TysOk P T) (hQ : QsOk P Q) (hm : P.follows .mixedOrders = true) {f : FuncId} {fn : Func} {c : Code} (hf : P.funcs[f]? = some fn) (hb : fn.body = some c) (args : List FV) (hn : args.length <= fn.ntmps) (spec : FV)
 (h : exec T Q wd fn.ntmps 0 c (argFr args 0) [] 0 (endH T fn.results.toList fun x H _ => Done H x spec)) : PureOk P f args spec := by
 intro X w vals hrel hX
 have hrel' : RelL (fun _ => none) X (wr (fun _ => none) []) w args vals := by rw [wr_nil]; exact hrel
 refine (fn_run hwd hT hQ hm hf hb hn h (fun _ _ h => by cases h) (st_start hX) hrel' (fun _ _ => ⟨rfl, rfl⟩)).mono fun e w' he => ?_
 obtain ⟨v, r', x, Hf, nf, rfl, hfin, st, _, hx, _⟩ := he
 refine ⟨v, rfl, ⟨st.os, st.tape, st.output, st.size, fun b hb => st.kept b hb id⟩, ?_⟩
 have h1 := hfin.le (fun k e' h => by cases h) _ r' w' v st hx
 rw [ren_nil] at h1
 refine FV.rel_w (fun b hb => ?_) _ _ h1
 exact .inr ⟨rfl, hb⟩
end
theorem callR_pure {P : Program} {f : FuncId} (hb : hasBody P f) {args args' : List FV} {H : Hp} {rd : List Nat} {nm wd : Nat} {spec : FV} (hbo : ∀ H', (∀ k ∈ rd, hget H k = hget H' k) -> BoL H' rd args args') (h : PureOk P f args' spec) : CallR P f args H nm wd ⟨none, spec, [], rd⟩ := by
 refine ⟨hb, fun H' hh cx r w vals st hfr _ hrel => ?_⟩
 obtain ⟨h1, h2⟩ := hbo H' hh
 refine (h (fun b => cx.X b \/ wr r H' b) w vals ⟨hrel.1.trans h1, fun i y u hy hu => ?_⟩ ?_).mono fun e w' he => ?_
 . have hi : i < args.length := by rw [h1]; exact (List.getElem?_eq_some_iff.1 hy).1
   exact FV.rel_w (fun _ h => h.elim) _ _ (h2 i _ y (List.getElem?_eq_getElem hi) hy cx r w u st (hrel.2 i _ u (List.getElem?_eq_getElem hi) hu))
 . exact st_xw st
 . obtain ⟨v, rfl, hbel, hv⟩ := he
   obtain ⟨g1, g2⟩ := st.below hbel
   exact ⟨v, rfl, r, g1, g2, fun _ _ => rfl, fun k e he => .inr ⟨e, he⟩, FV.rel_into (fun b hb => .inl hb) (fun b hb => .inr hb) _ _ hv⟩
def pureE {α R : Type} (A : AC α) (p : α -> Prop) (F : α -> R) (enc : R -> FV) : Entry := fun args H _ _ =>
 match A.dec H args with
 | some (a, q, rd) => some fun K => pAnd q (p a /\ ∀ s, s = F a -> K (enc s) [] rd)
 | none => none
theorem pureE_ok {α R : Type} {A : AC α} {p : α -> Prop} {F : α -> R} {enc : R -> FV} {P : Program} {f : FuncId} (hb : hasBody P f) (h : ∀ a, p a -> PureOk P f (A.enc a) (enc (F a))) : EntOk P f (pureE A p F enc) := by
 refine ⟨fun args H nm wd q _ hq K hK => ?_, fun args H nm wd q hq K K' hKK hK => ?_⟩
 . unfold pureE at hq
   split at hq
   . rename_i a pr rd hd
     injection hq with hq
     subst hq
     obtain ⟨h1, h2, h3⟩ := pAnd_iff.1 hK
     exact ⟨_, _, _, callR_pure hb (fun H' hh => A.sound H H' args a pr rd hd h1 hh) (h a h2), h3 _ rfl⟩
   . cases hq
 . unfold pureE at hq
   split at hq
   . injection hq with hq
     subst hq
     obtain ⟨h1, h2, h3⟩ := pAnd_iff.1 hK
     exact pAnd_iff.2 ⟨h1, h2, fun s hs => hKK _ _ _ (h3 s hs)⟩
   . cases hq
def resN (kd : Option Nat) (rest : Option (List EV)) (nm : Nat) : FV :=
 match kd, rest with
 | some n, none => one (.os nm 0 n)
 | some n, some l => .tup (.c (.os nm 0 n) :: l)
 | none, none => one (.ptr nm 0 0 false)
 | none, some l => .tup (.c (.ptr nm 0 0 false) :: l)
def NF (x : CV) : Prop := ∀ r r' X W w v, x.rel r X W w v -> x.rel r' X W w v
def NFE (x : EV) : Prop := ∀ r r' X W w v, x.rel r X W w v -> x.rel r' X W w v
theorem nf_int {k : IntKind} {a : Int} : NF (.int k a) := fun _ _ _ _ _ _ h => h
theorem nf_bool {a : Bool} : NF (.bool a) := fun _ _ _ _ _ _ h => h
theorem nf_nils : NF .nils := fun _ _ _ _ _ _ h => h
theorem nf_sl {sh : Bool} {n sz : Nat} {f : Nat -> Nat -> CV} (h : ∀ i, i < n -> ∀ j, j < sz -> NF (f i j)) : NF (.sl sh n sz f) := by
 rintro r r' X W w v ⟨a, cap, rfl, h1, h2⟩
 refine ⟨a, cap, rfl, h1, fun h0 => ?_⟩
 obtain ⟨ad, rfl, hs, ho, hX, hlt, hc⟩ := h2 h0
 refine ⟨ad, rfl, hs, ho, hX, hlt, fun i hi j hj => ?_⟩
 obtain ⟨u, hu, hr⟩ := hc i hi j hj
 exact ⟨u, hu, h i hi j hj _ _ _ _ _ _ hr⟩
theorem nfE_c {x : CV} (h : NF x) : NFE (.c x) := h
def at0 (o : Option Bi) : Ren := fun k => if k = 0 then o else none
def orB (X : Nat -> Prop) (o : Option Bi) (b : Nat) : Prop := X b \/ ∃ x, o = some x /\ x.b = b
def NewOk (P : Program) (f : FuncId) (args : List FV) (kd : Option Nat) (rest : Option (List EV)) (e' : Ent) : Prop :=
 ∀ X w (vals : Array Value), RelL (fun _ => none) X (fun _ => False) w args vals -> Xw X w -> Calls P f vals w fun e w' => ∃ v o, e = .returned v /\ Below w.heap.size w w' /\ (∀ x, o = some x -> w.heap.size <= x.b /\ x.b < w'.heap.size) /\
   EntIn (fun _ => none) X (orB X o) w' e' o w'.heap /\ (resN kd rest 0).rel (at0 o) X (orB X o) w' v
structure FinN (kd : Option Nat) (rest : Option (List EV)) (e' : Ent) (x : FV) (H : Hp) : Prop where
 ex : ∃ rho, LeF ⟨H, [(0, some e')], [(0, rho)], 1, true⟩ x (resN kd rest 0) /\ WkE ⟨H, [(0, some e')], [(0, rho)], 1, true⟩ e' rho
section
variable {P : Program} {T : Tys} {Q : Qs} {wd : Nat}
theorem new_intro (hwd : 0 < wd) (hT : TysOk P T) (hQ : QsOk P Q) (hm : P.follows .mixedOrders = true) {f : FuncId} {fn : Func} {c : Code} (hf : P.funcs[f]? = some fn) (hb : fn.body = some c) (args : List FV) (hn : args.length <= fn.ntmps) {kd : Option Nat} {rest : Option (List EV)} {e' : Ent}
 (hnf : ∀ i, i < e'.n -> ∀ j, j < e'.sz -> NF (e'.f i j)) (h : exec T Q wd fn.ntmps 0 c (argFr args 0) [] 0 (endH T fn.results.toList fun x H _ => FinN kd rest e' x H)) : NewOk P f args kd rest e' := by
 intro X w vals hrel hX
 have hrel' : RelL (fun _ => none) X (wr (fun _ => none) []) w args vals := by rw [wr_nil]; exact hrel
 refine (fn_run hwd hT hQ hm hf hb hn h (fun _ _ h => by cases h) (st_start hX) hrel' (fun _ _ => ⟨rfl, rfl⟩)).mono fun e w' he => ?_
 obtain ⟨v, r', x, Hf, nf, rfl, ⟨rho, hfin, hent⟩, st, _, hx, _⟩ := he
 have hsrc : ∀ k, Wc.src ⟨Hf, [(0, some e')], [(0, rho)], 1, true⟩ k = if k = 0 then rho else none := fun k => by
  unfold Wc.src
  simp only [lookR]
  by_cases hk : k = 0
  . subst hk; simp
  . have h1 : Nat.beq k 0 = false := by
     cases hb : Nat.beq k 0 with
     | false => rfl
     | true => exact absurd (Nat.eq_of_beq_eq_true hb) hk
    have h2 : Nat.blt k 1 = false := by
     cases hb : Nat.blt k 1 with
     | false => rfl
     | true => have := Nat.le_of_ble_eq_true hb; omega
    simp [h1, h2, hk]
 have hren : Wc.ren ⟨Hf, [(0, some e')], [(0, rho)], 1, true⟩ r' = at0 (rho.bind r') := by
  funext k
  unfold Wc.ren at0
  rw [hsrc]
  by_cases hk : k = 0
  . rw [if_pos hk, if_pos hk]; cases rho <;> rfl
  . rw [if_neg hk, if_neg hk]
 have hlive : Wc.Live ⟨Hf, [(0, some e')], [(0, rho)], 1, true⟩ := fun k e1 he1 k0 hk0 => by
  rw [hsrc] at hk0
  split at hk0
  . subst hk0
    unfold WkE at hent
    simp only at hent
    split at hent
    . rename_i e2 hh; exact ⟨e2, hh⟩
    . exact hent.elim
  . cases hk0
 have hwr : ∀ b, orB X (rho.bind r') b -> Wc.wr ⟨Hf, [(0, some e')], [(0, rho)], 1, true⟩ ⟨w, fun _ => False, fun _ => False, X, fun _ => none⟩ r' b := fun b hb => by
  rcases hb with hb | ⟨y, hy, hyb⟩
  . exact .inr ⟨rfl, hb⟩
  . refine .inl ⟨0, e', y, look_cons_eq _ _ _ _, ?_, hyb⟩
    rw [hren]; show (if 0 = 0 then _ else _) = _; rw [if_pos rfl]; exact hy
 refine ⟨v, rho.bind r', rfl, ⟨st.os, st.tape, st.output, st.size, fun b hb => st.kept b hb id⟩, fun y hy => ?_, ?_, ?_⟩
 . cases rho with
   | none => cases hy
   | some j =>
     have hy' : r' j = some y := hy
     obtain ⟨d1, d2, _⟩ := st.dom j y hy'
     exact ⟨d2.resolve_right id, d1⟩
 . cases rho with
   | none =>
     obtain ⟨g1, g2, g3⟩ := hent
     exact ⟨g3, (fun h => by rw [g2] at h; cases h), .inl ⟨rfl, g1⟩⟩
   | some j =>
     unfold WkE at hent
     simp only at hent
     split at hent
     . rename_i e2 hh
       exact (st.blk j e2 hh).map hent.t hent.n hent.sz hent.v rfl (fun _ _ => rfl) fun i hi j' hj u hu => by
        have h1 := hent.f i hi j' hj hlive _ r' w' u st hu
        exact CV.rel_w hwr _ _ (hnf i (by rw [<- hent.n]; exact hi) j' (by rw [<- hent.sz]; exact hj) _ _ _ _ _ _ h1)
     . exact hent.elim
 . have h1 := hfin hlive _ r' w' v st hx
   rw [hren] at h1
   exact FV.rel_w hwr _ _ h1
end
theorem resN_into {kd : Option Nat} {rest : Option (List EV)} {o : Option Bi} {nm : Nat} {r : Ren} {X' X W : Nat -> Prop} {w : World} {v : Value} (hr : r nm = o) (hrest : ∀ l, rest = some l -> ∀ x ∈ l, NFE x) (hX : ∀ b, X b -> orB X' o b) (hW : ∀ b, W b -> orB X' o b) (h : (resN kd rest 0).rel (at0 o) X' (orB X' o) w v) : (resN kd rest nm).rel r X W w v := by
 have hos : ∀ n u, (CV.os 0 0 n).rel (at0 o) X' (orB X' o) w u -> (CV.os nm 0 n).rel r X W w u := by
  rintro n u ⟨a, cap, rfl, h1, h2⟩
  refine ⟨a, cap, rfl, h1, fun h0 => ?_⟩
  obtain ⟨x, hx, h3⟩ := h2 h0
  exact ⟨x, ⟨by rw [hr]; exact hx.1, hx.2⟩, h3⟩
 have hpt : ∀ u, (CV.ptr 0 0 0 false).rel (at0 o) X' (orB X' o) w u -> (CV.ptr nm 0 0 false).rel r X W w u := by
  rintro u ⟨x, hx, rfl⟩
  exact ⟨x, ⟨by rw [hr]; exact hx.1, hx.2⟩, rfl⟩
 have htup : ∀ (a b : CV) l, rest = some l -> (∀ u, a.rel (at0 o) X' (orB X' o) w u -> b.rel r X W w u) -> (FV.tup (.c a :: l)).rel (at0 o) X' (orB X' o) w v -> (FV.tup (.c b :: l)).rel r X W w v := by
  rintro a b l hl hab ⟨vs, rfl, h1, h2⟩
  refine ⟨vs, rfl, by simpa using h1, fun i x u hx hu => ?_⟩
  cases i with
  | zero =>
    simp only [List.getElem?_cons_zero, Option.some.injEq] at hx
    subst hx
    exact hab u (h2 0 _ u rfl hu)
  | succ i =>
    have hx' : l[i]? = some x := by simpa using hx
    have := hrest l hl x (List.mem_of_getElem? hx') _ (fun _ => none) _ _ _ _ (h2 (i + 1) x u (by simpa using hx) hu)
    exact EV.rel_into hX hW _ _ this
 cases kd with
 | some n =>
   cases rest with
   | none => exact hos n v h
   | some l => exact htup _ _ l rfl (hos n) h
 | none =>
   cases rest with
   | none => exact hpt v h
   | some l => exact htup _ _ l rfl hpt h
theorem callR_new {P : Program} {f : FuncId} (hb : hasBody P f) {args args' : List FV} {H : Hp} {rd : List Nat} {nm wd : Nat} (hwd : 0 < wd) {kd : Option Nat} {rest : Option (List EV)} {e' : Ent} (hrest : ∀ l, rest = some l -> ∀ x ∈ l, NFE x)
 (hbo : ∀ H', (∀ k ∈ rd, hget H k = hget H' k) -> BoL H' rd args args') (h : NewOk P f args' kd rest e') : CallR P f args H nm wd ⟨none, resN kd rest nm, [(nm, some e')], rd⟩ := by
 refine ⟨hb, fun H' hh cx r w vals st hfr _ hrel => ?_⟩
 obtain ⟨h1, h2⟩ := hbo H' hh
 refine (h (fun b => cx.X b \/ wr r H' b) w vals ⟨hrel.1.trans h1, fun i y u hy hu => ?_⟩ (st_xw st)).mono fun e w' he => ?_
 . have hi : i < args.length := by rw [h1]; exact (List.getElem?_eq_some_iff.1 hy).1
   exact FV.rel_w (fun _ h => h.elim) _ _ (h2 i _ y (List.getElem?_eq_getElem hi) hy cx r w u st (hrel.2 i _ u (List.getElem?_eq_getElem hi) hu))
 . obtain ⟨v, o, rfl, hbel, ho, hent, hv⟩ := he
   obtain ⟨hr0, hh0⟩ := hfr nm (Nat.le_refl _) (by omega)
   have hr2 : ∀ k x, r k = some x -> (if k = nm then o else r k) = some x := fun k x hx => by
    by_cases hk : k = nm
    . subst hk; rw [hr0] at hx; cases hx
    . rw [if_neg hk]; exact hx
   have hl0 : hget ((nm, some e') :: H') nm = some e' := look_cons_eq _ _ _ _
   have hl : ∀ k, k ≠ nm -> hget ((nm, some e') :: H') k = hget H' k := fun k hk => look_cons_ne _ _ _ hk
   have hwr2 : ∀ b, wr (fun k => if k = nm then o else r k) ((nm, some e') :: H') b -> orB (fun b => cx.X b \/ wr r H' b) o b := by
    rintro b ⟨k, e, x, he, hx, hxb⟩
    by_cases hk : k = nm
    . subst hk
      have hx' : (if k = k then o else r k) = some x := hx
      rw [if_pos rfl] at hx'
      exact .inr ⟨x, hx', hxb⟩
    . have hx' : (if k = nm then o else r k) = some x := hx
      rw [if_neg hk] at hx'
      rw [hl k hk] at he
      exact .inl (.inr ⟨k, e, x, he, hx', hxb⟩)
   obtain ⟨g1, g2⟩ := st.below hbel
   have hdomo : ∀ x, o = some x -> x.b < w'.heap.size /\ cx.w0.heap.size <= x.b /\ ¬ cx.X x.b := fun x hx => by
    obtain ⟨a1, a2⟩ := ho x hx
    refine ⟨a2, Nat.le_trans st.size a1, fun hX => ?_⟩
    have := Nat.lt_of_lt_of_le (st.xlt.lt _ hX) st.size
    omega
   have hE : Ext r (wr r H') w (fun k => if k = nm then o else r k) (wr (fun k => if k = nm then o else r k) ((nm, some e') :: H')) w' := by
    refine ⟨hr2, hbel.size, fun b hb _ => hbel.block b hb, fun b hb hw => ?_⟩
    rcases hwr2 b hw with (hX | hw) | ⟨x, hx, hxb⟩
    . obtain ⟨k, e, x, he, hx, hxb⟩ := hw
      by_cases hk : k = nm
      . subst hk
        have hx' : (if k = k then o else r k) = some x := hx
        rw [if_pos rfl] at hx'
        obtain ⟨a1, a2⟩ := ho x hx'
        omega
      . have hx' : (if k = nm then o else r k) = some x := hx
        rw [if_neg hk] at hx'
        rw [hl k hk] at he
        exact ⟨k, e, x, he, hx', hxb⟩
    . exact hw
    . obtain ⟨a1, a2⟩ := ho x hx; omega
   refine ⟨v, rfl, fun k => if k = nm then o else r k, hE, ⟨g2.os, g2.tape, g2.output, g2.size, g2.kept, g2.xlt, fun k x hx => ?_, fun k e x he hx => ?_, fun n m e1 e2 x y hn hm hx hy hxy => ?_, fun k b hk => hr2 k b (g2.pin k b hk), fun k e he => ?_⟩, fun k hk => if_neg (by omega), fun k e he => ?_, ?_⟩
   . by_cases hk : k = nm
     . simp only [if_pos hk] at hx
       obtain ⟨a1, a2, a3⟩ := hdomo x hx
       exact ⟨a1, .inl a2, a3⟩
     . simp only [if_neg hk] at hx
       exact g2.dom k x hx
   . by_cases hk : k = nm
     . simp only [if_pos hk] at hx
       exact .inl (hdomo x hx).2.1
     . simp only [if_neg hk] at hx
       have he' : hget ((nm, some e') :: H') k = some e := he
       rw [hl k hk] at he'
       exact g2.ow k e x he' hx
   . have lt : ∀ k x, k ≠ nm -> (if k = nm then o else r k) = some x -> x.b < w.heap.size := fun k x hk hx => by rw [if_neg hk] at hx; exact (st.dom k x hx).1
     have ge : ∀ x, (if nm = nm then o else r nm) = some x -> w.heap.size <= x.b := fun x hx => by rw [if_pos rfl] at hx; exact (ho x hx).1
     by_cases h : n = nm
     . by_cases h' : m = nm
       . omega
       . have := lt m y h' hy; subst h; have := ge x hx; omega
     . by_cases h' : m = nm
       . have := lt n x h hx; subst h'; have := ge y hy; omega
       . have hn' : hget ((nm, some e') :: H') n = some e1 := hn
         have hm' : hget ((nm, some e') :: H') m = some e2 := hm
         rw [hl n h] at hn'; rw [hl m h'] at hm'
         simp only [if_neg h] at hx; simp only [if_neg h'] at hy
         exact st.inj n m e1 e2 x y hn' hm' hx hy hxy
   . have he' : hget ((nm, some e') :: H') k = some e := he
     by_cases hk : k = nm
     . subst hk
       rw [hl0] at he'; injection he' with he'; subst he'
       simp only [if_true]
       exact hent.map rfl rfl rfl rfl rfl (fun _ _ => rfl) fun i _ j _ u hu => CV.rel_into (fun b hb => .inl (.inl hb)) hwr2 _ _ hu
     . rw [hl k hk] at he'
       simp only [if_neg hk]
       have hold := st.old he' rfl (w' := w') fun x hx => hbel.block _ (st.dom k x hx).1
       exact hold.ext hE
   . have he' : hget ((nm, some e') :: H') k = some e := he
     by_cases hk : k = nm
     . exact .inl ⟨.inl (by omega), by omega⟩
     . rw [hl k hk] at he'; exact .inr ⟨e, he'⟩
   . exact resN_into (if_pos rfl) hrest (fun b hb => .inl (.inl hb)) hwr2 hv
def newE {α R : Type} (A : AC α) (p : α -> Prop) (F : α -> R) (kd : R -> Option Nat) (rest : R -> Option (List EV)) (ent : R -> Ent) : Entry := fun args H nm _ =>
 match A.dec H args with
 | some (a, q, rd) => some fun K => pAnd q (p a /\ ∀ s, s = F a -> K (resN (kd s) (rest s) nm) [(nm, some (ent s))] rd)
 | none => none
theorem newE_ok {α R : Type} {A : AC α} {p : α -> Prop} {F : α -> R} {kd : R -> Option Nat} {rest : R -> Option (List EV)} {ent : R -> Ent} {P : Program} {f : FuncId} (hb : hasBody P f) (hrest : ∀ s l, rest s = some l -> ∀ x ∈ l, NFE x) (h : ∀ a, p a -> NewOk P f (A.enc a) (kd (F a)) (rest (F a)) (ent (F a))) : EntOk P f (newE A p F kd rest ent) := by
 refine ⟨fun args H nm wd q hwd hq K hK => ?_, fun args H nm wd q hq K K' hKK hK => ?_⟩
 . unfold newE at hq
   split at hq
   . rename_i a pr rd hd
     injection hq with hq
     subst hq
     obtain ⟨h1, h2, h3⟩ := pAnd_iff.1 hK
     exact ⟨_, _, _, callR_new hb hwd (hrest _) (fun H' hh => A.sound H H' args a pr rd hd h1 hh) (h a h2), h3 _ rfl⟩
   . cases hq
 . unfold newE at hq
   split at hq
   . injection hq with hq
     subst hq
     obtain ⟨h1, h2, h3⟩ := pAnd_iff.1 hK
     exact pAnd_iff.2 ⟨h1, h2, fun s hs => hKK _ _ _ (h3 s hs)⟩
   . cases hq
theorem CV.rel_sub {X W X' W' : Nat -> Prop} {r : Ren} {w : World} (hX : ∀ b, X' b -> X b \/ W b) (hW : ∀ b, W' b -> W b) : ∀ (x : CV) (v : Value), x.rel r X W w v -> x.rel r X' W' w v := by
 intro x
 induction x with
 | top => intro v h; exact h
 | int => intro v h; exact h
 | bool => intro v h; exact h
 | ptr nm i j s => intro v h; exact h
 | nilp => intro v h; exact h
 | nils => intro v h; exact h
 | mp nm => intro v h; exact h
 | sl sh n sz f ih =>
   rintro v ⟨a, cap, rfl, h1, h2⟩
   refine ⟨a, cap, rfl, h1, fun h0 => ?_⟩
   obtain ⟨ad, rfl, hs, ho, hx, hlt, hc⟩ := h2 h0
   refine ⟨ad, rfl, hs, fun h => ho (hW _ h), fun e h => (hX _ h).elim (hx e) ho, hlt, fun i hi j hj => ?_⟩
   obtain ⟨u, hu, hr⟩ := hc i hi j hj
   exact ⟨u, hu, ih i j u hr⟩
 | rp sh m g ih =>
   rintro v ⟨ad, rfl, hs, ho, hx, hlt, hc⟩
   refine ⟨ad, rfl, hs, fun h => ho (hW _ h), fun e h => (hX _ h).elim (hx e) ho, hlt, fun j hj => ?_⟩
   obtain ⟨u, hu, hr⟩ := hc j hj
   exact ⟨u, hu, ih j u hr⟩
 | os nm i n => intro v h; exact h
 | oa nm i j n es => intro v h; exact h
 | fn f n m a ih =>
   rintro v ⟨fs, cs, rfl, h1, h2, h3, h4⟩
   exact ⟨fs, cs, rfl, h1, h2, fun k u hu => ih k u (h3 k u hu), fun k u hu => ih _ u (h4 k u hu)⟩
def MethOk (P : Program) (f : FuncId) (rest : List FV) (e : Ent) (val : FV) (e' : Ent) : Prop :=
 ∀ X w (x : Bi) (vals : Array Value), x.b < w.heap.size -> ¬ X x.b -> Xw (fun b => X b \/ b = x.b) w -> EntIn (fun _ => none) X (fun b => b = x.b) w e (some x) w.heap -> RelL (at0 (some x)) X (fun b => b = x.b) w (.e (.c (.ptr 0 0 0 false)) :: rest) vals ->
   Calls P f vals w fun en w' => ∃ v, en = .returned v /\ w'.os = w.os /\ w'.tape = w.tape /\ w'.output = w.output /\ w.heap.size <= w'.heap.size /\ (∀ b, b < w.heap.size -> b ≠ x.b -> w'.heap[b]? = w.heap[b]?) /\
    EntIn (fun _ => none) X (orB X (some x)) w' e' (some x) w'.heap /\ val.rel (fun _ => none) X (orB X (some x)) w' v
structure FinM (val : FV) (e' : Ent) (x : FV) (H : Hp) : Prop where
 le : LeF ⟨H, [(0, some e')], [], 1, true⟩ x val
 ent : WkE ⟨H, [(0, some e')], [], 1, true⟩ e' (some 0)
def NFF (x : FV) : Prop := ∀ r r' X W w v, x.rel r X W w v -> x.rel r' X W w v
section
variable {P : Program} {T : Tys} {Q : Qs} {wd : Nat}
theorem meth_intro (hwd : 0 < wd) (hT : TysOk P T) (hQ : QsOk P Q) (hm : P.follows .mixedOrders = true) {f : FuncId} {fn : Func} {c : Code} (hf : P.funcs[f]? = some fn) (hb : fn.body = some c) (rest : List FV) (hn : rest.length + 1 <= fn.ntmps) {e e' : Ent} {val : FV}
 (hval : NFF val) (hnf : ∀ i, i < e'.n -> ∀ j, j < e'.sz -> NF (e'.f i j)) (h : exec T Q wd fn.ntmps 1 c (argFr (.e (.c (.ptr 0 0 0 false)) :: rest) 0) [(0, some e)] 1 (endH T fn.results.toList fun x H _ => FinM val e' x H)) : MethOk P f rest e val e' := by
 intro X w x vals hxb hxX hX hent hrel
 have hwr : wr (at0 (some x)) [(0, some e)] = fun b => b = x.b := by
  funext b
  apply propext
  constructor
  . rintro ⟨k, e1, y, _, hy, rfl⟩
    unfold at0 at hy
    split at hy
    . injection hy with hy; rw [hy]
    . cases hy
  . rintro rfl
    exact ⟨0, e, x, look_cons_eq _ _ _ _, if_pos rfl, rfl⟩
 have hk0 : ∀ k e1, hget [(0, some e)] k = some e1 -> k = 0 /\ e1 = e := fun k e1 h => by
  by_cases hk : k = 0
  . subst hk
    have : hget [(0, some e)] 0 = some e := look_cons_eq _ _ _ _
    rw [this] at h; injection h with h; exact ⟨rfl, h.symm⟩
  . have : hget [(0, some e)] k = none := look_cons_ne _ _ _ hk
    rw [this] at h; cases h
 have st0 : St ⟨w, fun b => b = x.b, fun b => b = x.b, X, at0 (some x)⟩ (at0 (some x)) [(0, some e)] w := by
  refine ⟨rfl, rfl, rfl, Nat.le_refl _, fun _ _ _ => rfl, ⟨fun b hb => hX.1 b (.inl hb), glob_more hX.2 fun p _ h => h.elim .inl fun h => h.elim .inr .inr⟩, fun k y hy => ?_, fun k e1 y _ hy => ?_, fun n m e1 e2 y z h1 h2 _ _ _ => ?_, fun k b hk => hk, fun k e1 he1 => ?_⟩
  . unfold at0 at hy
    split at hy
    . injection hy with hy; subst hy; exact ⟨hxb, .inr rfl, hxX⟩
    . cases hy
  . unfold at0 at hy
    split at hy
    . injection hy with hy; subst hy; exact .inr rfl
    . cases hy
  . rw [(hk0 n e1 h1).1, (hk0 m e2 h2).1]
  . obtain ⟨rfl, rfl⟩ := hk0 k e1 he1
    rw [hwr]
    exact hent.map rfl rfl rfl rfl (if_pos rfl).symm (fun _ _ => rfl) fun i _ j _ u hu => CV.rel_ext ⟨fun _ _ h => (by cases h), Nat.le_refl _, fun _ _ _ => rfl, fun _ _ h => h⟩ _ _ hu
 refine (fn_run (np := 1) hwd hT hQ hm hf hb (by simpa using hn) h (fun k b hk => by
  have hk' : (if k = 0 then some x else none) = some b := hk
  split at hk'
  . omega
  . cases hk') st0 (by rw [hwr]; exact hrel) (fun k hk => ⟨if_neg (by omega), look_cons_ne _ _ _ (by omega)⟩)).mono fun en w' he => ?_
 obtain ⟨v, r', y, Hf, nf, rfl, ⟨hfin, hent'⟩, st, _, hy, _⟩ := he
 have hr0 : r' 0 = some x := st.pin 0 x (show (if 0 = 0 then some x else none) = some x from if_pos rfl)
 have hren : ∀ k, Wc.ren ⟨Hf, [(0, some e')], [], 1, true⟩ r' k = at0 (some x) k := fun k => by
  unfold Wc.ren Wc.src at0
  simp only [lookR]
  by_cases hk : k = 0
  . subst hk
    have h2 : Nat.blt 0 1 = true := rfl
    simp [h2, hr0]
  . have h2 : Nat.blt k 1 = false := by
     cases hb : Nat.blt k 1 with
     | false => rfl
     | true => have := Nat.le_of_ble_eq_true hb; omega
    simp [h2, hk]
 have hren : Wc.ren ⟨Hf, [(0, some e')], [], 1, true⟩ r' = at0 (some x) := funext hren
 unfold WkE at hent'
 simp only at hent'
 split at hent'
 . rename_i e2 hh
   have hlive : Wc.Live ⟨Hf, [(0, some e')], [], 1, true⟩ := fun k e1 he1 k0 hk0' => by
    have hk : k = 0 := by
     by_cases hk : k = 0
     . exact hk
     . have : hget [(0, some e')] k = none := look_cons_ne _ _ _ hk
       have he1' : hget [(0, some e')] k = some e1 := he1
       rw [this] at he1'; cases he1'
    subst hk
    have : Wc.src ⟨Hf, [(0, some e')], [], 1, true⟩ 0 = some 0 := rfl
    rw [this] at hk0'; injection hk0' with hk0'; subst hk0'
    exact ⟨e2, hh⟩
   have hwr2 : ∀ b, orB X (some x) b -> Wc.wr ⟨Hf, [(0, some e')], [], 1, true⟩ ⟨w, fun b => b = x.b, fun b => b = x.b, X, at0 (some x)⟩ r' b := fun b hb => by
    rcases hb with hb | ⟨z, hz, hzb⟩
    . exact .inr ⟨rfl, hb⟩
    . injection hz with hz; subst hz
      exact .inl ⟨0, e', x, look_cons_eq _ _ _ _, by rw [hren]; exact if_pos rfl, hzb⟩
   refine ⟨v, rfl, st.os, st.tape, st.output, st.size, fun b hb hne => st.kept b hb hne, ?_, ?_⟩
   . exact (st.blk 0 e2 hh).map hent'.t hent'.n hent'.sz hent'.v hr0 (fun _ _ => rfl) fun i hi j' hj u hu => by
      have h1 := hent'.f i hi j' hj hlive _ r' w' u st hu
      exact CV.rel_w hwr2 _ _ (hnf i (by rw [<- hent'.n]; exact hi) j' (by rw [<- hent'.sz]; exact hj) _ _ _ _ _ _ h1)
   . have h1 := hfin hlive _ r' w' v st hy
     exact FV.rel_w hwr2 _ _ (hval _ _ _ _ _ _ h1)
 . exact hent'.elim
end
theorem xw_more {X Y : Nat -> Prop} {w : World} (h : Xw X w) (hY : ∀ b, Y b -> X b) : Xw Y w := ⟨fun b hb => h.1 b (hY b hb), glob_more h.2 fun p _ hp => hY _ hp⟩
theorem callR_meth {P : Program} {f : FuncId} (hb : hasBody P f) {k : Nat} {s : Bool} {rest rest' : List FV} {H : Hp} {rd : List Nat} {nm wd : Nat} {e e' : Ent} {val : FV} (hk : hget H k = some e) (hv : e.v = true) (hkr : k ∉ rd) (hnf : ∀ i, i < e.n -> ∀ j, j < e.sz -> NF (e.f i j))
 (hbo : ∀ H', (∀ k ∈ rd, hget H k = hget H' k) -> BoL H' rd rest rest') (h : MethOk P f rest' e val e') (he' : e'.v = true) : CallR P f (.e (.c (.ptr k 0 0 s)) :: rest) H nm wd ⟨none, val, [(k, some e')], k :: rd⟩ := by
 refine ⟨hb, fun H' hh cx r w vals st hfr _ hrel => ?_⟩
 obtain ⟨h1, h2⟩ := hbo H' (fun k hk => hh k (List.mem_cons_of_mem _ hk))
 have hk' : hget H' k = some e := by rw [<- hh k (List.mem_cons_self ..)]; exact hk
 obtain ⟨g1, g2, g3⟩ := st.blk k e hk'
 rcases g3 with ⟨_, g4⟩ | ⟨x, cs, c1, c2, c3, c4, c5, c6⟩ | ⟨hfit, _⟩
 . have := g2 hv; omega
 . obtain ⟨d1, d2, d3⟩ := st.dom k x c1
   have hXx : ¬ (cx.X x.b \/ wrBut r H' [k] x.b) := by
    rintro (hX | ⟨k2, e2, y, he2, hy, hyb, hne⟩)
    . exact d3 hX
    . have := st.inj k2 k e2 e y x he2 hk' hy c1 hyb
      exact hne (by rw [this]; exact List.mem_singleton.2 rfl)
   have hsubX : ∀ b, (cx.X b \/ wrBut r H' [k] b) -> cx.X b \/ wr r H' b := by
    rintro b (hX | ⟨k2, e2, y, he2, hy, hyb, _⟩)
    . exact .inl hX
    . exact .inr ⟨k2, e2, y, he2, hy, hyb⟩
   have hsubW : ∀ b, b = x.b -> wr r H' b := fun b hb => ⟨k, e, x, hk', c1, hb.symm⟩
   have hXlt : Xw (fun b => (cx.X b \/ wrBut r H' [k] b) \/ b = x.b) w := xw_more (st_xw st) fun b hb => hb.elim (hsubX b) fun h => .inr (hsubW b h)
   refine (h (fun b => cx.X b \/ wrBut r H' [k] b) w x vals d1 hXx hXlt ?_ ⟨by rw [hrel.1]; simp [h1], fun i y u hy hu => ?_⟩).mono fun en w' he => ?_
   . refine ⟨g1, g2, .inr (.inl ⟨x, cs, rfl, c2, c3, c4, c5, fun i hi j hj u hu => ?_⟩)⟩
     exact CV.rel_sub hsubX hsubW _ _ (hnf i hi j hj _ _ _ _ _ _ (c6 i hi j hj u hu))
   . cases i with
     | zero =>
       simp only [List.getElem?_cons_zero, Option.some.injEq] at hy
       subst hy
       obtain ⟨z, hz, hzv⟩ := hrel.2 0 _ u rfl hu
       have hz1 := hz.1
       rw [c1] at hz1; injection hz1 with hz1; subst hz1
       exact ⟨x, ⟨if_pos rfl, hz.2⟩, hzv⟩
     | succ i =>
       have hy' : rest'[i]? = some y := by simpa using hy
       have hi : i < rest.length := by rw [h1]; exact (List.getElem?_eq_some_iff.1 hy').1
       have h3 := h2 i _ y (List.getElem?_eq_getElem hi) hy' cx r w u st (hrel.2 (i + 1) _ u (by simp [List.getElem?_eq_getElem hi]) hu)
       have h4 : y.rel (at0 (some x)) (fun b => cx.X b \/ wr r H' b) (wrBut r H' rd) w u := FV.rel_ext ⟨fun _ _ h => (by cases h), Nat.le_refl _, fun _ _ _ => rfl, fun _ _ h => h⟩ _ _ h3
       have h5 : y.rel (at0 (some x)) (fun b => cx.X b \/ wr r H' b) (fun b => b = x.b) w u := FV.rel_w (fun b hb => ⟨k, e, x, hk', c1, hb.symm, hkr⟩) _ _ h4
       cases y with
       | top => trivial
       | e y =>
         cases y with
         | c y => exact CV.rel_sub (fun b hb => .inl (hsubX b hb)) (fun b hb => hb) _ _ h5
         | agg n g => obtain ⟨cs', e1, e2, e3⟩ := h5; exact ⟨cs', e1, e2, fun i u hu => CV.rel_sub (fun b hb => .inl (hsubX b hb)) (fun b hb => hb) _ _ (e3 i u hu)⟩
       | tup l =>
         obtain ⟨vs, e1, e2, e3⟩ := h5
         refine ⟨vs, e1, e2, fun i z u hz hu => ?_⟩
         have := e3 i z u hz hu
         cases z with
         | c z => exact CV.rel_sub (fun b hb => .inl (hsubX b hb)) (fun b hb => hb) _ _ this
         | agg n g => obtain ⟨cs', e1, e2, e3⟩ := this; exact ⟨cs', e1, e2, fun i u hu => CV.rel_sub (fun b hb => .inl (hsubX b hb)) (fun b hb => hb) _ _ (e3 i u hu)⟩
   . obtain ⟨v, rfl, o1, o2, o3, o4, o5, o6, o7⟩ := he
     have hY : ∀ b, cx.X b \/ wr r H' b -> orB (fun b => cx.X b \/ wrBut r H' [k] b) (some x) b := by
      rintro b (hX | ⟨k2, e2, y, he2, hy, hyb⟩)
      . exact .inl (.inl hX)
      . by_cases hk2 : k2 = k
        . subst hk2; rw [c1] at hy; injection hy with hy; subst hy; exact .inr ⟨x, rfl, hyb⟩
        . exact .inl (.inr ⟨k2, e2, y, he2, hy, hyb, fun hm => hk2 (List.mem_singleton.1 hm)⟩)
     have hl0 : hget ((k, some e') :: H') k = some e' := look_cons_eq _ _ _ _
     have hl : ∀ j, j ≠ k -> hget ((k, some e') :: H') j = hget H' j := fun j hj => look_cons_ne _ _ _ hj
     have live : ∀ j e1, hget ((k, some e') :: H') j = some e1 -> ∃ e2, hget H' j = some e2 := fun j e1 hj => by
      by_cases hjk : j = k
      . subst hjk; exact ⟨e, hk'⟩
      . rw [hl j hjk] at hj; exact ⟨e1, hj⟩
     have hwr2 : ∀ b, wr r ((k, some e') :: H') b -> wr r H' b := by
      rintro b ⟨j, e1, y, h1, h2, h3⟩
      obtain ⟨e2, h1⟩ := live j e1 h1
      exact ⟨j, e2, y, h1, h2, h3⟩
     have hE : Ext r (wr r H') w r (wr r ((k, some e') :: H')) w' := ⟨fun _ _ h => h, o4, fun b hb hw => o5 b hb fun hbx => hw ⟨k, e, x, hk', c1, hbx.symm⟩, fun b _ hb => hwr2 b hb⟩
     refine ⟨v, rfl, r, hE, ⟨o1.trans st.os, o2.trans st.tape, o3.trans st.output, Nat.le_trans st.size o4, fun b hb hne => ?_, st.xlt, fun j y hy => ?_, fun j e1 y hj hy => ?_, fun n m e1 e2 y z h1 h2 hy hz hyz => ?_, st.pin, fun j e1 hj => ?_⟩, fun _ _ => rfl, fun j e1 hj => .inr (live j e1 hj), ?_⟩
     . rw [<- st.kept b hb hne]
       refine o5 b (Nat.lt_of_lt_of_le hb st.size) fun hbx => ?_
       rcases st.ow k e x hk' c1 with h | h
       . omega
       . exact hne (hbx ▸ h)
     . obtain ⟨a1, a2, a3⟩ := st.dom j y hy
       exact ⟨Nat.lt_of_lt_of_le a1 o4, a2, a3⟩
     . obtain ⟨e2, hj⟩ := live j e1 hj
       exact st.ow j e2 y hj hy
     . obtain ⟨e1', h1⟩ := live n e1 h1
       obtain ⟨e2', h2⟩ := live m e2 h2
       exact st.inj n m e1' e2' y z h1 h2 hy hz hyz
     . have hj' : hget ((k, some e') :: H') j = some e1 := hj
       by_cases hjk : j = k
       . subst hjk
         rw [hl0] at hj'; injection hj' with hj'; subst hj'
         rw [c1]
         exact o6.map rfl rfl rfl rfl rfl (fun _ _ => rfl) fun i _ q _ u hu => CV.rel_into (fun b hb => hY b (.inl hb)) (fun b hb => hY b (.inr (hwr2 b hb))) _ _ hu
       . rw [hl j hjk] at hj'
         have hold := st.old hj' rfl (w' := w') fun y hy => o5 _ (st.dom j y hy).1 fun hyx => hjk (st.inj j k e1 e y x hj' hk' hy c1 hyx)
         exact hold.ext hE
     . exact FV.rel_into (fun b hb => hY b (.inl hb)) (fun b hb => hY b (.inr (hwr2 b hb))) _ _ o7
 . have hf : e.v = false := hfit.1
   rw [hv] at hf; cases hf
def valI : CV -> Int
 | .int _ n => n
 | _ => 0
def valB : CV -> Bool
 | .bool b => b
 | _ => false
def isK (k : IntKind) : CV -> Bool
 | .int k' _ => kindEq k k'
 | _ => false
def isB : CV -> Bool
 | .bool _ => true
 | _ => false
theorem isK_eq {k : IntKind} {x : CV} (h : isK k x = true) : x = .int k (valI x) := by
 unfold isK at h
 split at h
 . rename_i k' n
   have : k = k' := by simpa [kindEq] using h
   subst this; rfl
 . cases h
theorem isB_eq {x : CV} (h : isB x = true) : x = .bool (valB x) := by
 unfold isB at h
 split at h
 . rfl
 . cases h
def okA (k : IntKind) (g : Nat -> CV) (o : Nat) : Nat -> Bool
 | 0 => true
 | n + 1 => isK k (g (o + n)) && okA k g o n
theorem okA_at {k : IntKind} {g : Nat -> CV} {o : Nat} : ∀ {n : Nat}, okA k g o n = true -> ∀ i, i < n -> g (o + i) = .int k (valI (g (o + i))) := by
 intro n
 induction n with
 | zero => intro _ i h; omega
 | succ n ih =>
   intro h i hi
   simp only [okA, Bool.and_eq_true] at h
   by_cases he : i = n
   . subst he; exact isK_eq h.1
   . exact ih h.2 i (by omega)
def gi (k : IntKind) : CV -> Option Int
 | .int k' n => bif kindEq k k' then some n else none
 | _ => none
theorem gi_eq {k : IntKind} {x : CV} {n : Int} (h : gi k x = some n) : x = .int k n := by
 unfold gi at h
 split at h
 . rename_i k' m
   cases hk : kindEq k k' with
   | false => rw [hk] at h; cases h
   | true =>
     rw [hk, cond_true] at h
     injection h with h
     have : k = k' := by simpa [kindEq] using hk
     rw [h, this]
 . cases h
def gb : CV -> Option Bool
 | .bool b => some b
 | _ => none
theorem gb_eq {x : CV} {b : Bool} (h : gb x = some b) : x = .bool b := by
 unfold gb at h
 split at h
 . injection h with h; rw [h]
 . cases h
def gc : FV -> Option CV
 | .e (.c x) => some x
 | _ => none
theorem gc_eq {x : FV} {y : CV} (h : gc x = some y) : x = .e (.c y) := by
 unfold gc at h
 split at h
 . injection h with h; rw [h]
 . cases h
def ga (m : Nat) : FV -> Option (Nat -> CV)
 | .e (.agg n f) => bif Nat.beq n m then some f else none
 | _ => none
theorem ga_eq {m : Nat} {x : FV} {f : Nat -> CV} (h : ga m x = some f) : x = .e (.agg m f) := by
 unfold ga at h
 split at h
 . rename_i n g
   cases hb : Nat.beq n m with
   | false => rw [hb] at h; cases h
   | true =>
     rw [hb, cond_true] at h
     injection h with h
     rw [h, Nat.eq_of_beq_eq_true hb]
 . cases h
theorem bind_some {α β : Type} {x : Option α} {f : α -> Option β} {b : β} (h : (x.bind f) = some b) : ∃ a, x = some a /\ f a = some b := by
 cases x with
 | none => cases h
 | some a => exact ⟨a, rfl, h⟩
def FlatC (x : CV) : Prop := ∀ r r' X X' W W' w w' v, x.rel r X W w v -> x.rel r' X' W' w' v
theorem flat_int {k : IntKind} {a : Int} : FlatC (.int k a) := fun _ _ _ _ _ _ _ _ _ h => h
theorem flat_bool {a : Bool} : FlatC (.bool a) := fun _ _ _ _ _ _ _ _ _ h => h
theorem FlatC.nf {x : CV} (h : FlatC x) : NF x := fun r r' X W w v hx => h _ _ _ _ _ _ _ _ _ hx
theorem FlatC.cl {x : CV} (h : FlatC x) : Cl x := fun c _ _ cx r w v _ hx => h _ _ _ _ _ _ _ _ _ hx
theorem FlatC.le {c : Wc} {x : CV} (h : FlatC x) : LeC c x x := fun _ cx r w v _ hx => h _ _ _ _ _ _ _ _ _ hx
structure Elem (α : Type) where
 sz : Nat
 cell : α -> Nat -> CV
 rd : (Nat -> CV) -> α
 ok : (Nat -> CV) -> Bool
 ok_eq : ∀ g, ok g = true -> ∀ j, j < sz -> g j = cell (rd g) j
 flat : ∀ a j, FlatC (cell a j)
def eI (k : IntKind) : Elem Int where
 sz := 1
 cell a _ := .int k a
 rd g := valI (g 0)
 ok g := isK k (g 0)
 ok_eq g h j hj := by have : j = 0 := by omega
                      subst this; exact isK_eq h
 flat _ _ := flat_int
def vget {n : Nat} (a : Fin n -> Int) (j : Nat) : Int := if h : j < n then a ⟨j, h⟩ else 0
theorem vget_lt {n : Nat} (a : Fin n -> Int) {j : Nat} (h : j < n) : vget a j = a ⟨j, h⟩ := dif_pos h
def eA (k : IntKind) (n : Nat) : Elem (Fin n -> Int) where
 sz := n
 cell a j := .int k (vget a j)
 rd g := fun q => valI (g q.1)
 ok g := okA k g 0 n
 ok_eq g h j hj := by
  have := okA_at h j hj
  rw [Nat.zero_add] at this
  rw [vget_lt _ hj]
  exact this
 flat _ _ := flat_int
theorem selC_out {c : Wc} {b : Bool} {x y z : CV} (hb : b = false) (h : LeC c y z) : LeC c (selC b x y) z := by rw [selC_eq, hb]; exact h
theorem selC_in {c : Wc} {b : Bool} {x y z : CV} (hb : b = true) (h : LeC c x z) : LeC c (selC b x y) z := by rw [selC_eq, hb]; exact h
def cI (k : IntKind) : Codec Int where
 enc n := .e (.c (.int k n))
 dec _ x := (gc x).bind fun y => (gi k y).bind fun n => some (n, none, [])
 sound H H' x a p rd h _ _ := by
  obtain ⟨y, h1, h⟩ := bind_some h
  obtain ⟨n, h2, h⟩ := bind_some h
  injection h with h
  injection h with h h'
  injection h' with h' h''
  subst h h''
  rw [gc_eq h1, gi_eq h2]
  exact fun cx r w v _ hx => hx
def cB : Codec Bool where
 enc n := .e (.c (.bool n))
 dec _ x := (gc x).bind fun y => (gb y).bind fun n => some (n, none, [])
 sound H H' x a p rd h _ _ := by
  obtain ⟨y, h1, h⟩ := bind_some h
  obtain ⟨n, h2, h⟩ := bind_some h
  injection h with h
  injection h with h h'
  injection h' with h' h''
  subst h h''
  rw [gc_eq h1, gb_eq h2]
  exact fun cx r w v _ hx => hx
theorem bo_agg {H : Hp} {rd : List Nat} {n : Nat} {f g : Nat -> CV} (hg : ∀ j, j < n -> f j = g j) (hf : ∀ j, FlatC (g j)) : Bo H rd (.e (.agg n f)) (.e (.agg n g)) := by
 rintro cx r w v _ ⟨cs, rfl, h1, h2⟩
 refine ⟨cs, rfl, h1, fun i u hu => ?_⟩
 have hi : i < n := by rw [<- h1]; exact (Array.getElem?_eq_some_iff.1 hu).1
 have := h2 i u hu
 rw [hg i hi] at this
 exact hf i _ _ _ _ _ _ _ _ _ this
def cE {α : Type} (E : Elem α) : Codec α where
 enc a := .e (.agg E.sz (E.cell a))
 dec _ x := (ga E.sz x).bind fun f => bif E.ok f then some (E.rd f, none, []) else none
 sound H H' x a p rd h _ _ := by
  obtain ⟨f, h1, h⟩ := bind_some h
  obtain ⟨hk, h⟩ := cond_some h
  injection h with h h'
  injection h' with h' h''
  subst h h''
  rw [ga_eq h1]
  exact bo_agg (E.ok_eq f hk) (E.flat _)
def rowF {α : Type} [Inhabited α] (E : Elem α) (l : List α) (i j : Nat) : CV := E.cell (l.getD i default) j
def toL {α : Type} (E : Elem α) (n : Nat) (g : Nat -> Nat -> CV) : List α := (List.range n).map fun i => E.rd (g i)
theorem toL_len {α : Type} (E : Elem α) (n : Nat) (g : Nat -> Nat -> CV) : (toL E n g).length = n := by simp [toL]
theorem toL_get {α : Type} [Inhabited α] {E : Elem α} {n : Nat} {g : Nat -> Nat -> CV} {i : Nat} (h : i < n) : (toL E n g).getD i default = E.rd (g i) := by simp [toL, h]
theorem bo_sl {α : Type} [Inhabited α] {E : Elem α} {H : Hp} {x : FV} {n : Nat} {g : Nat -> Nat -> CV} {p : Option Prop} {rd : List Nat} (hsz : 0 < E.sz) (h : srcOf H E.sz x = some ⟨n, g, p, rd⟩) (hp : preOk p) (hok : ∀ i, i < n -> E.ok (g i) = true) :
 Bo H rd x (.e (.c (.sl false (toL E n g).length E.sz (rowF E (toL E n g))))) := by
 intro cx r w v st hx
 rw [toL_len]
 have key : ∀ i, i < n -> ∀ j, j < E.sz -> rowF E (toL E n g) i j = g i j := fun i hi j hj => by
  unfold rowF
  rw [toL_get hi]
  exact (E.ok_eq _ (hok i hi) j hj).symm
 unfold srcOf at h
 split at h
 . rename_i sh n' s f
   obtain ⟨hb, h⟩ := cond_some h
   injection h with h1 h2 h3 h4
   subst h1 h2 h3 h4
   obtain ⟨a, cap, rfl, c1, c2⟩ := hx
   refine ⟨a, cap, rfl, c1, fun h0 => ?_⟩
   obtain ⟨ad, rfl, hs, ho, hX, hlt, hc⟩ := c2 h0
   refine ⟨ad, rfl, hs, fun ⟨k, e, x, q1, q2, q3, _⟩ => ho ⟨k, e, x, q1, q2, q3⟩, (fun h => by cases h), hlt, fun i hi j hj => ?_⟩
   have hsE : s = E.sz := Nat.eq_of_beq_eq_true hb
   subst hsE
   obtain ⟨u, hu, hr⟩ := hc i hi j hj
   refine ⟨u, hu, ?_⟩
   rw [<- key i hi j hj] at hr
   exact E.flat _ _ _ _ _ _ _ _ _ _ _ hr
 . injection h with h
   injection h with h1 h2 h3 h4
   subst h1 h2 h3 h4
   have : v = .slice none 0 0 := hx
   subst this
   exact ⟨none, 0, rfl, Nat.le_refl _, fun h => absurd h (Nat.lt_irrefl _)⟩
 . rename_i k i n'
   split at h
   . rename_i et en es ev f he
     obtain ⟨hb, h⟩ := cond_some h
     injection h with h1 h2 h3 h4
     subst h1 h2 h3 h4
     have hsE : es = E.sz := Nat.eq_of_beq_eq_true hb
     subst hsE
     obtain ⟨a, cap, rfl, c1, c2⟩ := hx
     refine ⟨a, cap, rfl, c1, fun h0 => ?_⟩
     obtain ⟨x, hx, rfl, _⟩ := c2 (by omega)
     have hp' : i + n' <= en := hp
     obtain ⟨_, _, hxs, _⟩ := blk_at st he hx
     simp only at hxs
     refine ⟨⟨x.b, i * x.sz, none⟩, rfl, rfl, ?_, (fun h => by cases h), (st.dom k x hx.1).1, fun q hq j hj => ?_⟩
     . rintro ⟨k2, e2, y, q1, q2, q3, q4⟩
       have := st.inj k2 k e2 _ y x q1 he q2 hx.1 q3
       exact q4 (by rw [this]; exact List.mem_singleton.2 rfl)
     . obtain ⟨u, hu, hr⟩ := blk_cell st he hx (i := i + q) (j := j) (show i + q < en by omega) hj
       refine ⟨u, ?_, ?_⟩
       . rw [<- hu]
         show w.cell? ⟨x.b, i * x.sz + (q * E.sz + j), none⟩ = _
         rw [show i * x.sz + (q * E.sz + j) = (i + q) * x.sz + j by rw [hxs, Nat.add_mul]; omega]
       . have := key q hq j hj
         rw [this]
         have hr' : (f (i + q) j).rel r cx.X (wr r H) w u := hr
         have e2 : f (i + q) j = E.cell (E.rd (f (i + q))) j := E.ok_eq _ (hok q hq) j hj
         rw [e2] at hr'
         show CV.rel _ _ _ w (f (i + q) j) u
         rw [e2]
         exact E.flat _ _ _ _ _ _ _ _ _ _ _ hr'
   . cases h
 . rename_i k i j0 n' s
   split at h
   . rename_i et en es ev f he
     obtain ⟨hb, h⟩ := cond_some h
     injection h with h1 h2 h3 h4
     subst h1 h2 h3 h4
     have hsE : s = E.sz := Nat.eq_of_beq_eq_true hb
     subst hsE
     obtain ⟨a, cap, rfl, c1, c2⟩ := hx
     refine ⟨a, cap, rfl, c1, fun h0 => ?_⟩
     obtain ⟨x, hx, rfl⟩ := c2 h0
     have hp' : i < en /\ j0 + n' * E.sz <= es := hp
     refine ⟨⟨x.b, i * x.sz + j0, none⟩, rfl, rfl, ?_, (fun h => by cases h), (st.dom k x hx.1).1, fun q hq j hj => ?_⟩
     . rintro ⟨k2, e2, y, q1, q2, q3, q4⟩
       have := st.inj k2 k e2 _ y x q1 he q2 hx.1 q3
       exact q4 (by rw [this]; exact List.mem_singleton.2 rfl)
     . have hlt : q * E.sz + j < n' * E.sz := by have := row_lt (sz := E.sz) hq; omega
       obtain ⟨u, hu, hr⟩ := blk_cell st he hx (i := i) (j := j0 + (q * E.sz + j)) (show i < en from hp'.1) (show j0 + (q * E.sz + j) < es by omega)
       refine ⟨u, ?_, ?_⟩
       . rw [<- hu]
         show w.cell? ⟨x.b, i * x.sz + j0 + (q * E.sz + j), none⟩ = _
         rw [Nat.add_assoc]
       . have := key q hq j hj
         rw [this]
         have hr' : (f i (j0 + (q * E.sz + j))).rel r cx.X (wr r H) w u := hr
         have e2 : f i (j0 + (q * E.sz + j)) = E.cell (E.rd fun t => f i (j0 + (q * E.sz + t))) j := E.ok_eq _ (hok q hq) j hj
         rw [e2] at hr'
         show CV.rel _ _ _ w (f i (j0 + (q * E.sz + j))) u
         rw [e2]
         exact E.flat _ _ _ _ _ _ _ _ _ _ _ hr'
   . cases h
 . cases h
def cSl {α : Type} [Inhabited α] (E : Elem α) (hsz : 0 < E.sz) : Codec (List α) where
 enc l := .e (.c (.sl false l.length E.sz (rowF E l)))
 dec H x := match srcOf H E.sz x with
  | some ⟨n, g, p, rd⟩ => some (toL E n g, both p (some (∀ i, i < n -> E.ok (g i) = true)), rd)
  | none => none
 sound H H' x a p rd h hp hh := by
  split at h
  . rename_i n g q rd' hs
    injection h with h
    injection h with h h'
    injection h' with h' h''
    subst h h' h''
    obtain ⟨h1, h2⟩ := both_ok.1 hp
    exact bo_sl hsz (srcOf_congr hs hh) h1 h2
  . cases h
def slR {α : Type} [Inhabited α] (E : Elem α) (l : List α) : CV := .sl true l.length E.sz (rowF E l)
def ents {α : Type} [Inhabited α] (E : Elem α) (t : TypeId) (l : List α) : Ent := ⟨t, l.length, E.sz, false, rowF E l⟩
theorem toL_row {α : Type} [Inhabited α] {E : Elem α} (hE : ∀ a, E.rd (E.cell a) = a) (l : List α) : toL E l.length (rowF E l) = l := by
 apply List.ext_getElem
 . simp [toL]
 . intro i h1 h2
   simp only [toL, List.getElem_map, List.getElem_range]
   have : rowF E l i = E.cell (l.getD i default) := rfl
   rw [this, hE]
   simp [List.getD_eq_getElem?_getD, List.getElem?_eq_getElem h2]
theorem cl_slB {α : Type} [Inhabited α] (E : Elem α) (l : List α) : Cl (.sl false l.length E.sz (rowF E l)) := cl_sl fun i _ j _ => (E.flat _ _).cl
theorem cl_slR {α : Type} [Inhabited α] (E : Elem α) (l : List α) : Cl (.sl true l.length E.sz (rowF E l)) := cl_sl fun i _ j _ => (E.flat _ _).cl
end Go.Proofs.Ytfaibcgakcmhcaa.AX
