/- copy, and slices of slices and arrays; the abstract step is sound. -/
import Derived.Test.YtjknkfjhcapocaaBSlice
namespace Go.Proofs.Ytjknkfjhcapocaa.AX
open Go.RowKit
set_option linter.unusedVariables false
set_option linter.unusedSimpArgs false
section
variable {P : Program} {cx : Cx} {r : Ren} {H : Hp} {w : World} {T : Tys} {fr : Fr} {a : Act} {nm wd : Nat}

/-- An entry said in other words. -/
theorem same_left (st : St cx r H w) {k : Nat} {e : Ent} (hk : hget H k = some e) {f : Nat → Nat → CV} (hf : ∀ i, i < e.n → ∀ j, j < e.sz → f i j = e.f i j) {sr : SR} {v : Value} (he : sr.eff = [(k, some ⟨e.t, e.n, e.sz, e.v, f⟩)]) (hval : ∀ W w', sr.val.rel r cx.X W w' v) : Left cx r H w nm wd sr v w := by
  have hl : ∀ q, q ≠ k → hget ((k, some ⟨e.t, e.n, e.sz, e.v, f⟩) :: H) q = hget H q := fun q hq => look_cons_ne _ _ _ hq
  have hl0 : hget ((k, some ⟨e.t, e.n, e.sz, e.v, f⟩) :: H) k = some ⟨e.t, e.n, e.sz, e.v, f⟩ := look_cons_eq _ _ _ _
  have live : ∀ q e', hget ((k, some ⟨e.t, e.n, e.sz, e.v, f⟩) :: H) q = some e' → ∃ e1, hget H q = some e1 := fun q e' h => by
    by_cases hq : q = k
    · subst hq; exact ⟨e, hk⟩
    · rw [hl q hq] at h; exact ⟨e', h⟩
  have := st.step (r' := r) (H' := (k, some ⟨e.t, e.n, e.sz, e.v, f⟩) :: H) (w' := w) (fun _ _ h => h) rfl rfl rfl (Nat.le_refl _) (fun _ _ _ => rfl) (fun b hb hw => by
      obtain ⟨q, e', y, h1, h2, h3⟩ := hw
      obtain ⟨e1, h1⟩ := live q e' h1
      exact ⟨q, e1, y, h1, h2, h3⟩) (fun q y hq => .inl ⟨q, hq⟩) (fun n m e1 e2 y z h1 h2 hy hz hyz => by
      obtain ⟨e1, h1⟩ := live n e1 h1
      obtain ⟨e2, h2⟩ := live m e2 h2
      exact st.inj n m e1 e2 y z h1 h2 hy hz hyz) (fun q e' hq => by
      by_cases h : q = k
      · subst h
        rw [hl0] at hq; injection hq with hq; subst hq
        obtain ⟨g1, g2, g3⟩ := st.blk q e hk
        refine ⟨g1, g2, g3.imp id ?_⟩
        rintro ⟨x, cs, c1, c2, c3, c4, c5, c6⟩
        exact ⟨x, cs, c1, c2, c3, c4, c5, fun i hi j hj u hu => by show (f i j).rel _ _ _ _ _; rw [hf i hi j hj]; exact c6 i hi j hj u hu⟩
      · rw [hl q h] at hq
        exact st.blk q e' hq)
  obtain ⟨h1, h2⟩ := this
  unfold Left
  rw [he]
  refine ⟨r, h1, h2, fun _ _ => rfl, fun n e' hn => ?_, hval _ _⟩
  obtain ⟨e1, h⟩ := live n e' hn
  exact .inr ⟨e1, h⟩

theorem ovE_in {f g : Nat → Nat → CV} {i n k j : Nat} (h : i ≤ k ∧ k < i + n) : ovE f i n g k j = g (k - i) j := by
  unfold ovE
  rw [selC_eq, show (Nat.ble i k && Nat.blt k (i + n)) = true from by simp only [Bool.and_eq_true]; exact ⟨Nat.ble_eq_true_of_le h.1, Nat.ble_eq_true_of_le h.2⟩]
  rfl
theorem ovE_out {f g : Nat → Nat → CV} {i n k j : Nat} (h : ¬ (i ≤ k ∧ k < i + n)) : ovE f i n g k j = f k j := by
  unfold ovE
  have : (Nat.ble i k && Nat.blt k (i + n)) = false := by
    cases hh : (Nat.ble i k && Nat.blt k (i + n)) with
    | false => rfl
    | true =>
      simp only [Bool.and_eq_true] at hh
      exact absurd ⟨Nat.le_of_ble_eq_true hh.1, Nat.le_of_ble_eq_true hh.2⟩ h
  rw [selC_eq, this]; rfl

/-- Rows laid over a block of ours. -/
theorem rows_runs (st : St cx r H w) {k : Nat} {x : Bi} {e : Ent} (hk : hget H k = some e) (hx : r k = some x) {i m : Nat} {vs : List Value} {g : Nat → Nat → CV} (hb : i + m ≤ e.n) (hn : vs.length = m * e.sz) (hcell : ∀ v ∈ vs, isCell v)
    (hg : ∀ q, q < m → ∀ j, j < e.sz → ∀ u, vs[q * e.sz + j]? = some u → (g q j).rel r cx.X (wr r H) w u) {sr : SR} {v : Value} (he : sr.eff = [(k, some ⟨e.t, e.n, e.sz, e.v, ovE e.f i m g⟩)]) (hval : ∀ W w', sr.val.rel r cx.X W w' v) :
    ∃ w', (storeCells ⟨x.b, i * x.sz, none⟩ vs 0).run P w = .ok () w' ∧ Left cx r H w nm wd sr v w' := by
  obtain ⟨h1, h2, h3, h4, cs, h5, h6, h7⟩ := blk_at st hk hx
  have hfit : i * x.sz + 0 + vs.length ≤ cs.size := by
    rw [h6, hn, h3, Nat.add_zero, ← Nat.add_mul]
    exact Nat.mul_le_mul_right _ (by omega)
  obtain ⟨w', g1, g2, g3, g4, g5, g6, g7⟩ := run_storeCells P x.b (i * x.sz) e.t vs 0 w cs h5 hfit hcell
  rw [Nat.add_zero] at g7
  refine ⟨w', g1, write_left st hk hx (by rw [ovl_size]; exact h6) (fun q hq j hj u hu => ?_) g2 g3 g4 g5 g6 g7 he hval⟩
  rw [ovl_get _ _ _ (by omega), h3] at hu
  by_cases hin : i ≤ q ∧ q < i + m
  · rw [ovE_in hin]
    have e1 := Nat.mul_le_mul_right e.sz hin.1
    have e2 := row_lt (sz := e.sz) (show q - i < m by omega)
    have e3 : q * e.sz + j - i * e.sz = (q - i) * e.sz + j := by rw [Nat.sub_mul]; omega
    rw [if_pos (by rw [hn]; omega), e3] at hu
    exact hg (q - i) (by omega) j hj u hu
  · rw [ovE_out hin]
    have hout : ¬ (i * e.sz ≤ q * e.sz + j ∧ q * e.sz + j < i * e.sz + vs.length) := fun hh => by
      rw [hn, ← Nat.add_mul] at hh
      apply hin
      constructor
      · rcases Nat.lt_or_ge q i with h | h
        · have := row_lt (sz := e.sz) h; omega
        · exact h
      · rcases Nat.lt_or_ge q (i + m) with h | h
        · exact h
        · have := Nat.mul_le_mul_right e.sz h; omega
    rw [if_neg hout] at hu
    exact h7 q hq j hj u hu

theorem take_rel {X W : Nat → Prop} {v : Value} {n sz : Nat} {g : Nat → Nat → CV} {news : List Value} (h : Lies r X W w v n sz g news) {m : Nat} (hm : m ≤ n) :
    (news.take (m * sz)).length = m * sz ∧ (∀ u ∈ news.take (m * sz), isCell u) ∧ ∀ q, q < m → ∀ j, j < sz → ∀ u, (news.take (m * sz))[q * sz + j]? = some u → (g q j).rel r X W w u := by
  refine ⟨?_, fun u hu => h.cell u (List.mem_of_mem_take hu), fun q hq j hj u hu => ?_⟩
  · rw [List.length_take, h.len]
    exact Nat.min_eq_left (Nat.mul_le_mul_right _ hm)
  · rw [List.getElem?_take] at hu
    split at hu
    · exact h.rel q (by omega) j hj u hu
    · cases hu

theorem run_copy {t : TypeId} {ts : Array TypeId} {ty e : TypeId} {i : TypeInfo} (hts : ts[0]? = some t) (ht : P.underlying t = some (.slice e)) (hi : P.info? e = some i) (base : Option Addr) (n cap : Nat) {X W : Nat → Prop} {y : Value} {m : Nat} {g : Nat → Nat → CV} {news : List Value} (hy : Lies r X W w y m i.size g news)
    {w' : World} (hst : ∀ ad, base = some ad → (storeCells ad (news.take (Nat.min m n * i.size)) 0).run P w = .ok () w') (hno : base = none → w' = w) :
    (Builtin.copy_ ts ty #[.slice base n cap, y]).run P w = .ok (.int .i64 (Nat.min m n : Nat)) w' := by
  obtain ⟨A, c, rfl, _, _⟩ := hy.shape
  have hf := lies_first (P := P) hy (w' := w) rfl (m := Nat.min m n) (Nat.min_le_left _ _)
  cases base with
  | none =>
    have := hno rfl; subst this
    simp [Builtin.copy_, hts, run_underlying ht, sizeOf, typeInfo, hi, Builtin.lenOf, hf, goInt]
  | some ad =>
    have := hst ad rfl
    simp [Builtin.copy_, hts, run_underlying ht, sizeOf, typeInfo, hi, Builtin.lenOf, hf, goInt, this]

theorem step_copy_os {t : TypeId} {ts : Array TypeId} {ty e : TypeId} {i : TypeInfo} (hts : ts[0]? = some t) (ht : P.underlying t = some (.slice e)) (hi : P.info? e = some i) (st : St cx r H w) {k b n : Nat} {et : Ent} (hk : hget H k = some et) (hsz : et.sz = i.size) {x : Value} (hx : (CV.os k b n).rel r cx.X (wr r H) w x) (hbn : b + n ≤ et.n)
    {y : Value} {m : Nat} {g : Nat → Nat → CV} {news : List Value} (hy : Lies r cx.X (wr r H) w y m i.size g news) (p : Option Prop) (rd : List Nat) :
    ∃ v w', (Builtin.copy_ ts ty #[x, y]).run P w = .ok v w' ∧ Left cx r H w nm wd ⟨p, one (.int .i64 (Nat.min m n : Nat)), [(k, some ⟨et.t, et.n, et.sz, et.v, ovE et.f b (Nat.min m n) g⟩)], rd⟩ v w' := by
  obtain ⟨A, cap, rfl, hn, hc⟩ := hx
  obtain ⟨t1, t2, t3⟩ := take_rel hy (m := Nat.min m n) (Nat.min_le_left _ _)
  rcases Nat.eq_zero_or_pos cap with h0 | h0
  · have hn0 : n = 0 := by omega
    subst hn0
    have hm0 : Nat.min m 0 = 0 := Nat.min_eq_right (Nat.zero_le _)
    refine ⟨_, w, run_copy hts ht hi A 0 cap hy (fun ad _ => ?_) (fun _ => rfl), same_left st hk (fun q hq j hj => ovE_out (by rw [hm0]; omega)) rfl (fun _ _ => rfl)⟩
    rw [hm0, Nat.zero_mul, List.take_zero]; rfl
  · obtain ⟨bi, hb1, rfl, hb3⟩ := hc h0
    have hmn : Nat.min m n ≤ n := Nat.min_le_right _ _
    obtain ⟨w', s1, s2⟩ := rows_runs (P := P) (nm := nm) (wd := wd) st hk hb1 (i := b) (m := Nat.min m n) (vs := news.take (Nat.min m n * i.size)) (g := g) (by omega) (by rw [hsz]; exact t1) t2 (by rw [hsz]; exact t3)
      (sr := ⟨p, one (.int .i64 (Nat.min m n : Nat)), [(k, some ⟨et.t, et.n, et.sz, et.v, ovE et.f b (Nat.min m n) g⟩)], rd⟩) (v := .int .i64 (Nat.min m n : Nat)) rfl (fun _ _ => rfl)
    exact ⟨_, w', run_copy hts ht hi _ n cap hy (fun ad h => by injection h with h; subst h; exact s1) (fun h => by cases h), s2⟩

theorem step_copy_oa {t : TypeId} {ts : Array TypeId} {ty e : TypeId} {i : TypeInfo} (hts : ts[0]? = some t) (ht : P.underlying t = some (.slice e)) (hi : P.info? e = some i) (h0s : 0 < i.size) (st : St cx r H w) {k b j n s : Nat} {et : Ent} (hk : hget H k = some et) (hsz : s = i.size) {x : Value} (hx : (CV.oa k b j n s).rel r cx.X (wr r H) w x) (hb : b < et.n) (hbn : j + n * s ≤ et.sz)
    {y : Value} {m : Nat} {g : Nat → Nat → CV} {news : List Value} (hy : Lies r cx.X (wr r H) w y m i.size g news) (p : Option Prop) (rd : List Nat) :
    ∃ v w', (Builtin.copy_ ts ty #[x, y]).run P w = .ok v w' ∧ Left cx r H w nm wd ⟨p, one (.int .i64 (Nat.min m n : Nat)), [(k, some ⟨et.t, et.n, et.sz, et.v, updE et.v et.f b (ovs (et.f b) j (Nat.min m n * s) fun q => g (q / s) (q % s))⟩)], rd⟩ v w' := by
  obtain ⟨A, cap, rfl, hn, hc⟩ := hx
  obtain ⟨t1, t2, t3⟩ := take_rel hy (m := Nat.min m n) (Nat.min_le_left _ _)
  subst hsz
  rcases Nat.eq_zero_or_pos n with h0 | h0
  · subst h0
    have hm0 : Nat.min m 0 = 0 := Nat.min_eq_right (Nat.zero_le _)
    have hv := (st.blk k et hk).2.1
    refine ⟨_, w, run_copy hts ht hi A 0 cap hy (fun ad _ => ?_) (fun _ => rfl), same_left st hk (fun q hq j' hj => ?_) rfl (fun _ _ => rfl)⟩
    · rw [hm0, Nat.zero_mul, List.take_zero]; rfl
    · rw [updE_at hv hb hq, ovs_eq]
      split
      · subst q; rw [ovr_out (by rw [hm0]; omega)]
      · rfl
  · obtain ⟨bi, hb1, rfl⟩ := hc h0
    have hmn : Nat.min m n ≤ n := Nat.min_le_right _ _
    have hle := Nat.mul_le_mul_right i.size hmn
    obtain ⟨w', s1, s2⟩ := store_runs (P := P) (nm := nm) (wd := wd) st hk hb1 (a := b) (b := j) (n := Nat.min m n * i.size) (vs := news.take (Nat.min m n * i.size)) (g := fun q => g (q / i.size) (q % i.size)) (F := ovs (et.f b) j (Nat.min m n * i.size) fun q => g (q / i.size) (q % i.size)) (fun q _ => congrFun (ovs_eq _ _ _ _) q) hb (by omega) t1 t2 (fun q u hu => by
        have hq : q < Nat.min m n * i.size := by have := (List.getElem?_eq_some_iff.1 hu).1; omega
        refine t3 (q / i.size) ((Nat.div_lt_iff_lt_mul h0s).2 hq) (q % i.size) (Nat.mod_lt _ h0s) u ?_
        rw [show q / i.size * i.size + q % i.size = q by rw [Nat.mul_comm]; exact Nat.div_add_mod q i.size]
        exact hu)
      (sr := ⟨p, one (.int .i64 (Nat.min m n : Nat)), [(k, some ⟨et.t, et.n, et.sz, et.v, updE et.v et.f b (ovs (et.f b) j (Nat.min m n * i.size) fun q => g (q / i.size) (q % i.size))⟩)], rd⟩) (v := .int .i64 (Nat.min m n : Nat)) rfl (fun _ _ => rfl)
    exact ⟨_, w', run_copy hts ht hi _ n cap hy (fun ad h => by injection h with h; subst h; exact s1) (fun h => by cases h), s2⟩

/-- The bounds of a slice expression. -/
theorem bnds_ok (hf : ∀ x, (ev fr x).rel r cx.X (wr r H) w (a.eval x)) {lo hi : Option Operand} {n : Nat} {p : Option Prop} {l h : Nat} (hb : bnds (lo.map (ev fr)) (hi.map (ev fr)) n = some (p, l, h)) (hp : preOk p) :
    l ≤ h ∧ h ≤ n ∧ ∀ (isS : Bool) (cap : Nat), n ≤ cap → (Instr.sliceBounds isS n cap (lo.map a.eval) (hi.map a.eval) none).run P w = .ok (l, h, cap) w := by
  unfold bnds at hb
  split at hb
  · rename_i h1 h2
    injection hb with hb; injection hb with e1 e2; injection e2 with e2 e3; subst e1 e2 e3
    have hlo : lo = none := by cases lo with | none => rfl | some y => cases h1
    have hhi : hi = none := by cases hi with | none => rfl | some y => cases h2
    subst hlo hhi
    exact ⟨Nat.zero_le _, Nat.le_refl _, fun isS cap hc => by simp [Instr.sliceBounds]⟩
  · rename_i k q h1 h2
    injection hb with hb; injection hb with e1 e2; injection e2 with e2 e3; subst e1 e2 e3
    have hhi : hi = none := by cases hi with | none => rfl | some y => cases h2
    subst hhi
    obtain ⟨y, rfl⟩ : ∃ y, lo = some y := by cases lo with | none => cases h1 | some y => exact ⟨y, rfl⟩
    have hy := hf y
    simp only [Option.map_some, Option.some.injEq] at h1
    rw [h1] at hy
    have hyv : a.eval y = .int _ q := hy
    have hp' : 0 ≤ q ∧ q ≤ (n : Int) := hp
    exact ⟨by omega, Nat.le_refl _, fun isS cap hc => by simp [Instr.sliceBounds, Instr.sliceBound, hyv, asIntOf, hp']⟩
  · rename_i k q h1 h2
    injection hb with hb; injection hb with e1 e2; injection e2 with e2 e3; subst e1 e2 e3
    have hlo : lo = none := by cases lo with | none => rfl | some y => cases h1
    subst hlo
    obtain ⟨y, rfl⟩ : ∃ y, hi = some y := by cases hi with | none => cases h2 | some y => exact ⟨y, rfl⟩
    have hy := hf y
    simp only [Option.map_some, Option.some.injEq] at h2
    rw [h2] at hy
    have hyv : a.eval y = .int _ q := hy
    have hp' : 0 ≤ q ∧ q ≤ (n : Int) := hp
    exact ⟨Nat.zero_le _, by omega, fun isS cap hc => by simp [Instr.sliceBounds, Instr.sliceBound, hyv, asIntOf, hp', show q ≤ (cap : Int) by omega]⟩
  · rename_i k q k' q' h1 h2
    injection hb with hb; injection hb with e1 e2; injection e2 with e2 e3; subst e1 e2 e3
    obtain ⟨y, rfl⟩ : ∃ y, lo = some y := by cases lo with | none => cases h1 | some y => exact ⟨y, rfl⟩
    obtain ⟨y2, rfl⟩ : ∃ y, hi = some y := by cases hi with | none => cases h2 | some y => exact ⟨y, rfl⟩
    have hy := hf y
    have hy2 := hf y2
    simp only [Option.map_some, Option.some.injEq] at h1 h2
    rw [h1] at hy
    rw [h2] at hy2
    have hyv : a.eval y = .int _ q := hy
    have hyv2 : a.eval y2 = .int _ q' := hy2
    have hp' : 0 ≤ q ∧ q ≤ q' ∧ q' ≤ (n : Int) := hp
    exact ⟨by omega, by omega, fun isS cap hc => by simp [Instr.sliceBounds, Instr.sliceBound, hyv, hyv2, asIntOf, show 0 ≤ q' by omega, show q' ≤ (cap : Int) by omega, hp'.1, hp'.2.1, show ¬ max q' 0 < q by omega]⟩
  · cases hb

theorem slice_ok (hT : TysOk P T) (st : St cx r H w) (hf : ∀ x, (ev fr x).rel r cx.X (wr r H) w (a.eval x)) {t : TypeId} {x : Operand} {lo hi : Option Operand} {sr : SR} (h : sliceF T H t (ev fr x) (lo.map (ev fr)) (hi.map (ev fr)) = some sr) (hp : preOk sr.pre) :
    ∃ v, (Instr.sliceAt t (a.eval x) (lo.map a.eval) (hi.map a.eval) none).run P w = .ok v w ∧ sr.eff = [] ∧ sr.val.rel r cx.X (wr r H) w v := by
  have hx := hf x
  unfold sliceF at h
  split at h
  · rename_i e es s0 z0 eq0 by0 sh n sz f ht hxe
    rw [hxe] at hx
    split at h
    · rename_i p l q hb
      cases hb0 : Nat.beq sz es with
      | false => rw [hb0] at h; cases h
      | true =>
        rw [hb0, cond_true] at h
        have e1 : sz = es := Nat.eq_of_beq_eq_true hb0
        injection h with h; subst h
        obtain ⟨hlq, hqn, hbb⟩ := bnds_ok (P := P) hf hb hp
        obtain ⟨ad0, cap, hv, hnc, hc⟩ := hx
        obtain ⟨d, hd, htd⟩ := (hT _ _ ht).under
        obtain ⟨rfl, hes, hinf⟩ := td_slice htd
        obtain ⟨je, hje⟩ := Option.isSome_iff_exists.1 hinf
        have hjes : je.size = es := by rw [← hes]; simp [szN, hje]
        refine ⟨.slice (if cap = l then ad0 else ad0.map (·.add (l * je.size))) (q - l) (cap - l), ?_, rfl, _, _, rfl, by omega, fun h0 => ?_⟩
        · rw [hv]
          simp only [Instr.sliceAt, Sem.run_bind, run_underlying hd, Result.andThen_ok, Instr.slice, hbb true cap hnc, run_size hje, Sem.run_pure]
        · obtain ⟨ad, rfl, hsp, ho, hX, hlt, hcell⟩ := hc (by omega)
          rw [if_neg (by omega)]
          refine ⟨⟨ad.block, ad.off + l * je.size, none⟩, by simp [addS hsp], rfl, ho, hX, hlt, fun i hi j hj => ?_⟩
          obtain ⟨u, hu, hru⟩ := hcell (l + i) (by omega) j hj
          refine ⟨u, ?_, hru⟩
          rw [← hu]
          have : ad.off + l * je.size + (i * sz + j) = ad.off + ((l + i) * sz + j) := by rw [hjes, ← e1, Nat.add_mul]; omega
          simp only [this]
    · cases h
  · rename_i e es s0 z0 eq0 by0 k i n ht hxe
    rw [hxe] at hx
    split at h
    · rename_i p l q hb
      split at h
      · rename_i et en esz ev0 ef he
        cases hb0 : Nat.beq esz es with
        | false => rw [hb0] at h; cases h
        | true =>
          rw [hb0, cond_true] at h
          have e1 : esz = es := Nat.eq_of_beq_eq_true hb0
          injection h with h; subst h
          obtain ⟨hlq, hqn, hbb⟩ := bnds_ok (P := P) hf hb hp
          obtain ⟨ad0, cap, hv, hnc, hc⟩ := hx
          obtain ⟨d, hd, htd⟩ := (hT _ _ ht).under
          obtain ⟨rfl, hes, hinf⟩ := td_slice htd
          obtain ⟨je, hje⟩ := Option.isSome_iff_exists.1 hinf
          have hjes : je.size = es := by rw [← hes]; simp [szN, hje]
          refine ⟨.slice (if cap = l then ad0 else ad0.map (·.add (l * je.size))) (q - l) (cap - l), ?_, rfl, _, _, rfl, by omega, fun h0 => ?_⟩
          · rw [hv]
            simp only [Instr.sliceAt, Sem.run_bind, run_underlying hd, Result.andThen_ok, Instr.slice, hbb true cap hnc, run_size hje, Sem.run_pure]
          · obtain ⟨x, hx, rfl, hxc⟩ := hc (by omega)
            have e9 : i + l + (cap - l) = x.c := by clear hc; omega
            obtain ⟨_, _, hxs, _⟩ := blk_at st he hx
            simp only at hxs
            refine ⟨x, hx, ?_, e9⟩
            rw [if_neg (by omega)]
            simp only [Option.map_some, addN, Option.some.injEq, Addr.mk.injEq, true_and, and_true]
            rw [hxs, hjes, e1, Nat.add_mul]
      · cases h
    · cases h
  · rename_i e es s0 z0 eq0 by0 k i j n s ht hxe
    rw [hxe] at hx
    split at h
    · rename_i p l q hb
      cases hb0 : Nat.beq s es with
      | false => rw [hb0] at h; cases h
      | true =>
        rw [hb0, cond_true] at h
        have e1 : s = es := Nat.eq_of_beq_eq_true hb0
        injection h with h; subst h
        obtain ⟨hlq, hqn, hbb⟩ := bnds_ok (P := P) hf hb hp
        obtain ⟨ad0, cap, hv, hnc, hc⟩ := hx
        obtain ⟨d, hd, htd⟩ := (hT _ _ ht).under
        obtain ⟨rfl, hes, hinf⟩ := td_slice htd
        obtain ⟨je, hje⟩ := Option.isSome_iff_exists.1 hinf
        have hjes : je.size = es := by rw [← hes]; simp [szN, hje]
        refine ⟨.slice (if cap = l then ad0 else ad0.map (·.add (l * je.size))) (q - l) (cap - l), ?_, rfl, _, _, rfl, by omega, fun h0 => ?_⟩
        · rw [hv]
          simp only [Instr.sliceAt, Sem.run_bind, run_underlying hd, Result.andThen_ok, Instr.slice, hbb true cap hnc, run_size hje, Sem.run_pure]
        · obtain ⟨x, hx, rfl⟩ := hc (by omega)
          refine ⟨x, hx, ?_⟩
          rw [if_neg (by omega)]
          simp only [Option.map_some, addN, Option.some.injEq, Addr.mk.injEq, true_and, and_true]
          rw [hjes, e1]; omega
    · cases h
  · rename_i n el es ea s1 z1 eq1 by1 k i j sym ht hxe
    rw [hxe] at hx
    split at h
    · rename_i p l q hb
      cases hb0 : Nat.blt 0 es with
      | false => rw [hb0] at h; cases h
      | true =>
        rw [hb0, cond_true] at h
        have e0 := blt_pos hb0
        injection h with h; subst h
        obtain ⟨hlq, hqn, hbb⟩ := bnds_ok (P := P) hf hb hp
        obtain ⟨x, hx, hv⟩ := hx
        obtain ⟨d2, hd2, htd2⟩ := (hT _ _ ht).under
        obtain ⟨rfl, hes, _⟩ := td_arr htd2
        obtain ⟨je, hje, hjes⟩ := szN_info hes e0
        refine ⟨.slice (some (if n = l then ⟨x.b, i * x.sz + j, none⟩ else (⟨x.b, i * x.sz + j, none⟩ : Addr).add (l * je.size))) (q - l) (n - l), ?_, rfl, _, _, rfl, by omega, fun h0 => ?_⟩
        · rw [hv]
          simp only [Instr.sliceAt, Sem.run_bind, run_underlying hd2, Result.andThen_ok, Instr.sureAddr, hbb false n (Nat.le_refl _), run_size hje, Sem.run_pure]
        · refine ⟨x, hx, ?_⟩
          rw [if_neg (by omega), addN, hjes, Nat.add_assoc]
    · cases h
  · rename_i n el es ea s1 z1 eq1 by1 sh m g ht hxe
    rw [hxe] at hx
    split at h
    · rename_i p l q hb
      cases hb0 : Nat.blt 0 es with
      | false => rw [hb0] at h; cases h
      | true =>
        rw [hb0, cond_true] at h
        have e0 := blt_pos hb0
        injection h with h; subst h
        obtain ⟨hp1, hp2⟩ := both_ok.1 hp
        have e1 : n * es ≤ m := hp2
        obtain ⟨hlq, hqn, hbb⟩ := bnds_ok (P := P) hf hb hp1
        obtain ⟨b, off, hv, ho, hX, hlt, hc⟩ := rp_addr hx
        obtain ⟨d2, hd2, htd2⟩ := (hT _ _ ht).under
        obtain ⟨rfl, hes, _⟩ := td_arr htd2
        obtain ⟨je, hje, hjes⟩ := szN_info hes e0
        refine ⟨.slice (some (if n = l then ⟨b, off, none⟩ else (⟨b, off, none⟩ : Addr).add (l * je.size))) (q - l) (n - l), ?_, rfl, _, _, rfl, by omega, fun h0 => ?_⟩
        · rw [hv]
          simp only [Instr.sliceAt, Sem.run_bind, run_underlying hd2, Result.andThen_ok, Instr.sureAddr, hbb false n (Nat.le_refl _), run_size hje, Sem.run_pure]
        · refine ⟨⟨b, off + l * es, none⟩, ?_, rfl, ho, hX, hlt, fun i hi j hj => ?_⟩
          · rw [if_neg (by omega), addN, hjes]
          · have hlt2 : (l + i) * es + j < m := by
              have := row_lt (sz := es) (show l + i < n by omega); omega
            obtain ⟨u, hu, hr⟩ := hc ((l + i) * es + j) hlt2
            refine ⟨u, ?_, hr⟩
            rw [← hu]
            have : off + l * es + (i * es + j) = off + ((l + i) * es + j) := by rw [Nat.add_mul]; omega
            simp only [this]
    · cases h
  · cases h
end
end Go.Proofs.Ytjknkfjhcapocaa.AX
