/- MetricSettles, by AX2: the plain law; the law returns true. -/
import Derived.Test.YtolliidpmgncdaaMetricChoosesA
namespace Go.Proofs.Ytolliidpmgncdaa.AX
open Go.RowKit
set_option linter.unusedVariables false
set_option linter.unusedSimpArgs false
def bstep (b o : Opt) : Opt := if o.cost < b.cost then o else b
def bf (l : List Opt) : Opt := l.foldl bstep n0
def ustep (nb : Int) (c o : Opt) : Opt := if o.cost < 65535 ∧ o.nb = nb then o else c
def cur (nb : Int) (l : List Opt) : Opt := l.foldl (ustep nb) n0
theorem cfold_eq (nb : Int) : ∀ (l : List Opt) (b c : Opt), l.foldl (cstep nb) (b, c) = (l.foldl bstep b, l.foldl (ustep nb) c) := by
  intro l
  induction l with
  | nil => intro b c; rfl
  | cons o l ih =>
    intro b c
    rw [List.foldl_cons, List.foldl_cons, List.foldl_cons]
    exact ih _ _
theorem bf_spec : ∀ (l : List Opt) (b : Opt), (l.foldl bstep b = b ∨ (l.foldl bstep b ∈ l ∧ (l.foldl bstep b).cost < b.cost)) ∧ (l.foldl bstep b).cost ≤ b.cost ∧ ∀ o ∈ l, (l.foldl bstep b).cost ≤ o.cost := by
  intro l
  induction l with
  | nil => intro b; exact ⟨.inl rfl, Int.le_refl _, fun o ho => by cases ho⟩
  | cons x l ih =>
    intro b
    rw [List.foldl_cons]
    obtain ⟨h1, h2, h3⟩ := ih (bstep b x)
    have hb : (bstep b x).cost ≤ b.cost ∧ (bstep b x).cost ≤ x.cost := by unfold bstep; split <;> constructor <;> omega
    refine ⟨?_, by omega, fun o ho => ?_⟩
    · rcases h1 with h1 | ⟨h1, h4⟩
      · by_cases hx : x.cost < b.cost
        · right
          have e : bstep b x = x := if_pos hx
          rw [e] at h1
          rw [e, h1]; exact ⟨by simp, hx⟩
        · left
          have e : bstep b x = b := if_neg hx
          rw [e] at h1
          rw [e]; exact h1
      · right
        exact ⟨List.mem_cons_of_mem _ h1, by omega⟩
    · rcases List.mem_cons.1 ho with rfl | ho
      · omega
      · exact h3 o ho
theorem cur_spec (nb : Int) : ∀ (l : List Opt) (c : Opt), (l.foldl (ustep nb) c = c ∧ ∀ o ∈ l, ¬ (o.cost < 65535 ∧ o.nb = nb)) ∨ (l.foldl (ustep nb) c ∈ l ∧ (l.foldl (ustep nb) c).cost < 65535 ∧ (l.foldl (ustep nb) c).nb = nb) := by
  intro l
  induction l with
  | nil => intro c; exact .inl ⟨rfl, fun o ho => by cases ho⟩
  | cons x l ih =>
    intro c
    rw [List.foldl_cons]
    rcases ih (ustep nb c x) with ⟨h1, h2⟩ | ⟨h1, h2, h3⟩
    · by_cases hx : x.cost < 65535 ∧ x.nb = nb
      · right
        have e : ustep nb c x = x := if_pos hx
        rw [e] at h1
        rw [e, h1]; exact ⟨by simp, hx.1, hx.2⟩
      · left
        have e : ustep nb c x = c := if_neg hx
        rw [e] at h1
        rw [e]
        refine ⟨h1, fun o ho => ?_⟩
        rcases List.mem_cons.1 ho with rfl | ho
        · exact hx
        · exact h2 o ho
    · exact .inr ⟨List.mem_cons_of_mem _ h1, h2, h3⟩
theorem vo_lt : ∀ {l : List Opt} {p : Int}, voF (some p) l = true → ∀ o ∈ l, p < o.nb := by
  intro l
  induction l with
  | nil => intro p _ o ho; cases ho
  | cons x l ih =>
    intro p h o ho
    rw [voF] at h
    simp only [Bool.and_eq_true, ordN, decide_eq_true_eq] at h
    rcases List.mem_cons.1 ho with rfl | ho
    · exact h.1.2
    · have := ih h.2 o ho; omega
theorem vo_inj : ∀ {l : List Opt} {p : Option Int}, voF p l = true → ∀ o ∈ l, ∀ o' ∈ l, o.nb = o'.nb → o = o' := by
  intro l
  induction l with
  | nil => intro p _ o ho; cases ho
  | cons x l ih =>
    intro p h o ho o' ho' hn
    rw [voF] at h
    simp only [Bool.and_eq_true] at h
    rcases List.mem_cons.1 ho with h1 | h1
    · rcases List.mem_cons.1 ho' with h2 | h2
      · rw [h1, h2]
      · have := vo_lt h.2 o' h2; rw [h1] at hn; omega
    · rcases List.mem_cons.1 ho' with h2 | h2
      · have := vo_lt h.2 o h1; rw [h2] at hn; omega
      · exact ih h.2 o h1 o' h2 hn
theorem cur_self {l : List Opt} (h : vopts l = true) {o : Opt} (ho : o ∈ l) (hc : o.cost < 65535) : cur o.nb l = o := by
  rcases cur_spec o.nb l n0 with ⟨_, h2⟩ | ⟨h1, h2, h3⟩
  · exact absurd ⟨hc, rfl⟩ (h2 o ho)
  · unfold vopts at h
    simp only [Bool.and_eq_true] at h
    exact vo_inj h.2 _ h1 o ho h3
/-- At rest: the neighbour with the smallest cost. -/
def StA (l : List Opt) (c : Cho) : Prop := c.bt = -1 ∧ c.cost = (bf l).cost ∧ ((c.nb = 0 ∧ c.cost = 65535) ∨ (c.cost < 65535 ∧ cur c.nb l = ⟨c.nb, c.cost⟩))
/-- The neighbour is kept for a while. -/
def StB (l : List Opt) (c : Cho) : Prop := c.bt = 0 ∧ (bf l).cost < c.cost ∧ c.cost - (bf l).cost < 256 ∧ c.cost < 65535 ∧ cur c.nb l = ⟨c.nb, c.cost⟩
def SInv (l : List Opt) (now : Int) (c : Cho) (ch : Int) : Prop := vchoice c = true ∧ ((now = 0 ∧ c.bt = -1 ∧ ch = 0) ∨ (StA l c ∧ 0 ≤ ch ∧ ch ≤ 1) ∨ (StB l c ∧ ch = 0))
theorem bf_or {l : List Opt} : bf l = n0 ∨ (bf l ∈ l ∧ (bf l).cost < 65535) := by
  rcases (bf_spec l n0).1 with h | ⟨h1, h2⟩
  · exact .inl h
  · exact .inr ⟨h1, h2⟩
theorem take_A {l : List Opt} (hv : vopts l = true) : StA l ⟨(bf l).nb, (bf l).cost, -1⟩ := by
  refine ⟨rfl, rfl, ?_⟩
  rcases bf_or (l := l) with h | ⟨h1, h2⟩
  · left; rw [h]; exact ⟨rfl, rfl⟩
  · exact .inr ⟨h2, cur_self hv h1 h2⟩
theorem cur_zero {l : List Opt} (hv : vopts l = true) : cur 0 l = n0 := by
  rcases cur_spec 0 l n0 with ⟨h, _⟩ | ⟨h1, h2, h3⟩
  · exact h
  · exact absurd h3 (vop_mem hv _ h1).1
theorem choose_eq {l : List Opt} (hv : vopts l = true) {now : Int} (hnow : 0 ≤ now ∧ now ≤ 1099511627776) {c : Cho} (hc : vchoice c = true) : chooseF now c l = (pickF now c (bf l) (cur c.nb l), 0) := by
  unfold chooseF
  rw [if_pos ⟨hc, hv⟩, if_pos (vt_rng.2 hnow)]
  unfold cfold
  rw [cfold_eq]; rfl
theorem settle_A {l : List Opt} (hv : vopts l = true) {now : Int} {c : Cho} (h : StA l c) : pickF now c (bf l) (cur c.nb l) = c := by
  obtain ⟨nb, cost, bt⟩ := c
  obtain ⟨h1, h2, h3⟩ := h
  dsimp only at h1 h2 h3 ⊢
  rcases h3 with ⟨h3, h4⟩ | ⟨h3, h4⟩
  · subst h3
    rw [cur_zero hv]
    have hb : bf l = n0 := by
      rcases bf_or (l := l) with h | ⟨_, h⟩
      · exact h
      · omega
    rw [hb, h1, h4]; rfl
  · rw [h4]
    unfold pickF
    dsimp only
    rw [if_neg (by omega), if_pos h2.symm, h1]
theorem settle_step {l : List Opt} (hv : vopts l = true) {now : Int} (hnow : 0 ≤ now ∧ now ≤ 1099511627776) {c : Cho} {ch : Int} (h : SInv l now c ch) {x : Cho} (hx : x = (chooseF now c l).1) :
    (∀ now', SInv l now' x (if x.nb = c.nb then ch else ch + 1)) ∧ (9 ≤ now → x.cost = (bf l).cost ∧ (c.cost = (bf l).cost → x.nb = c.nb)) := by
  obtain ⟨hc, h⟩ := h
  have hvx : vchoice x = true := by
    subst hx
    exact choose_valid (by rw [choose_eq hv hnow hc])
  rw [choose_eq hv hnow hc] at hx
  dsimp only at hx
  have two : (StA l x ∧ 0 ≤ (if x.nb = c.nb then ch else ch + 1) ∧ (if x.nb = c.nb then ch else ch + 1) ≤ 1) ∨ (StB l x ∧ (if x.nb = c.nb then ch else ch + 1) = 0) → ∀ now', SInv l now' x (if x.nb = c.nb then ch else ch + 1) := fun h now' => ⟨hvx, .inr h⟩
  have ifb : ∀ (p : Prop) [Decidable p], ch = 0 → 0 ≤ (if p then ch else ch + 1) ∧ (if p then ch else ch + 1) ≤ 1 := fun p _ h0 => by split <;> omega
  rcases h with ⟨h0, hbt, hch⟩ | ⟨hA, h1, h2⟩ | ⟨hB, hch⟩
  · refine ⟨two ?_, fun h => by omega⟩
    have hcur := cur_spec c.nb l n0
    change (cur c.nb l = n0 ∧ _) ∨ (cur c.nb l ∈ l ∧ (cur c.nb l).cost < 65535 ∧ (cur c.nb l).nb = c.nb) at hcur
    rcases hcur with ⟨h3, _⟩ | ⟨h3, h4, h5⟩
    · rw [h3] at hx
      have ex : x = ⟨(bf l).nb, (bf l).cost, -1⟩ := by rw [hx]; rfl
      rw [ex]
      exact .inl ⟨take_A hv, ifb _ hch⟩
    · have hm := (bf_spec l n0).2.2 _ h3
      change (bf l).cost ≤ _ at hm
      have hself := cur_self hv h3 h4
      have hnz := (vop_mem hv _ h3).1
      generalize hk : cur c.nb l = k at *
      unfold pickF at hx
      rw [if_neg (by omega)] at hx
      split at hx
      · rename_i he
        left
        refine ⟨?_, ifb _ hch⟩
        rw [hx]
        refine ⟨rfl, he.symm, .inr ⟨h4, ?_⟩⟩
        exact hself
      · split at hx
        · rw [hx]
          exact .inl ⟨take_A hv, ifb _ hch⟩
        · right
          rw [hx]
          refine ⟨⟨h0, by dsimp only; omega, by dsimp only; omega, h4, hself⟩, ?_⟩
          rw [if_pos h5]; exact hch
  · have e := settle_A hv (now := now) hA
    rw [e] at hx
    subst hx
    refine ⟨two (.inl ⟨hA, ?_⟩), fun _ => ⟨hA.2.1, fun _ => rfl⟩⟩
    rw [if_pos rfl]; exact ⟨h1, h2⟩
  · obtain ⟨b1, b2, b3, b4, b5⟩ := hB
    have hnz : c.nb ≠ 0 := by
      intro h
      rw [h, cur_zero hv] at b5
      injection b5 with _ b5
      omega
    rw [b5] at hx
    unfold pickF at hx
    dsimp only at hx
    rw [if_neg (by omega), if_neg (by omega), if_neg (by omega), if_neg (by omega)] at hx
    split at hx
    · rw [hx] at two hvx ⊢
      exact ⟨two (.inl ⟨take_A hv, ifb _ hch⟩), fun _ => ⟨rfl, fun h => by omega⟩⟩
    · have ex : x = c := by rw [hx]
      rw [ex] at two ⊢
      refine ⟨two (.inr ⟨⟨b1, b2, b3, b4, b5⟩, by rw [if_pos rfl]; exact hch⟩), fun h => by omega⟩
def mstep (b : Int) (o : Opt) : Int := if o.cost < b then o.cost else b
theorem bf_cost : ∀ (l : List Opt) (b : Opt), (l.foldl bstep b).cost = l.foldl mstep b.cost := by
  intro l
  induction l with
  | nil => intro b; rfl
  | cons o l ih =>
    intro b
    rw [List.foldl_cons, List.foldl_cons, ih]
    congr 1
    unfold bstep mstep
    split <;> rfl
structure SbS (L : List Opt) where
  i : Nat
  b : Int
  hi : i ≤ L.length
  hb : (L.drop i).foldl mstep b = (bf L).cost
structure ScS (L : List Opt) where
  now : Int
  c : Cho
  ch : Int
  h0 : 0 ≤ now ∧ now ≤ 21
  h : SInv L now c ch
set_option maxHeartbeats 8000000 in
set_option maxRecDepth 200000 in
theorem msettles_ok (n : Nat) (l : List Int) (gap : Int) (hl : rngL l) :
    PureOk Try.prog 10 [.e (.c (.sl true n 1 (rI l))), (cI .i64).enc gap] (.e (.c (.bool true))) := by
  have hg := modF_lt (v := gap) (n := 3) (by omega)
  refine pure_intro (wd := 1) (Q := mkQ LZ) (by decide) tysOk (q_of LZ_ok) mixed Try.func10 rfl _ (by show 2 ≤ _; decide) _ ?_
  repeat' (first | (apply And.intro <;> intro hc <;> (first | exact Bool.noConfusion hc | (simp only [decide_eq_true_eq, decide_eq_false_iff_not, Bool.not_eq_true', Bool.not_eq_false', beq_iff_eq, beq_eq_false_iff_ne, bne_iff_ne, bne_eq_false_iff_eq, Bool.true_eq_false, Bool.false_eq_true] at hc) | skip)) | (refine And.intro (by first | exact trivial | decide | omega | (dsimp only; omega) | exact fun _ _ => rfl | exact ⟨by assumption, by first | exact trivial | decide | omega | (dsimp only; omega)⟩) ?_) | (apply And.intro) | (intro s hs))
  · exact ⟨l, rfl, hl⟩
  intro ht0
  obtain ⟨m, em⟩ : ∃ m, m = s := ⟨s, rfl⟩
  obtain ⟨q0, eq0⟩ : ∃ q0, q0 = hs := ⟨hs, rfl⟩
  subst em eq0
  repeat' (first | (apply And.intro <;> intro hc <;> (first | exact Bool.noConfusion hc | (simp only [decide_eq_true_eq, decide_eq_false_iff_not, Bool.not_eq_true', Bool.not_eq_false', beq_iff_eq, beq_eq_false_iff_ne, bne_iff_ne, bne_eq_false_iff_eq, Bool.true_eq_false, Bool.false_eq_true] at hc) | skip)) | (refine And.intro (by first | exact trivial | decide | omega | (dsimp only; omega) | exact fun _ _ => rfl | exact ⟨by assumption, by first | exact trivial | decide | omega | (dsimp only; omega)⟩) ?_) | (apply And.intro) | (intro s hs))
  rename_i L hL
  have hv : vopts L = true := hL
  have hLn := vop_len hv
  obtain ⟨q2, eq2⟩ : ∃ q2, q2 = s := ⟨s, rfl⟩
  subst eq2
  have ht2 := hs
  clear hs
  refine loop_intro (mono_of LZ_ok) (fun s : SbS L => (⟨[(1, one (.int .i64 gap)), (5, one (.ptr 2 0 0 false)), (6, one (slR eOp L)), (7, one (.int .i64 s.b)), (19, one (slR eOp L)), (20, one (.int .i64 (L.length : Int))), (21, one (.int .i64 (s.i : Int)))],
    [(2, some (tapeN m (rI l) q2))], 11⟩ : Hd)) (fun s => L.length - s.i) (fun _ => rfl) ?_ ⟨0, 65535, by omega, (bf_cost L n0).symm⟩ [] ?_
  · rintro ⟨i, b, hi, hb⟩
    dsimp only at hi hb ⊢
    have hnext : ∀ h : i < L.length, (L.drop (i + 1)).foldl mstep (mstep b (L.getD i default)) = (bf L).cost := fun h => by
      rw [← hb, drop_at h, List.foldl_cons]
    have hend : ¬ i < L.length → b = (bf L).cost := fun h => by
      rw [← hb, List.drop_eq_nil_of_le (by omega)]; rfl
    repeat' (first | (apply And.intro <;> intro hc <;> (first | exact Bool.noConfusion hc | (simp only [decide_eq_true_eq, decide_eq_false_iff_not, Bool.not_eq_true', Bool.not_eq_false', beq_iff_eq, beq_eq_false_iff_ne, bne_iff_ne, bne_eq_false_iff_eq, Bool.true_eq_false, Bool.false_eq_true, ne_eq, not_true_eq_false] at hc <;> first | exact absurd rfl hc | skip) | skip)) | (refine And.intro (by first | exact trivial | decide | omega | (dsimp only; omega) | exact fun _ _ => rfl | exact ⟨by assumption, by first | exact trivial | decide | omega | (dsimp only; omega)⟩) ?_) | (apply And.intro) | (intro s hs; (first | (have hs' : s = true := hs; clear hs; subst hs') | skip)))
    · have hlt' : i < L.length := by omega
      refine ⟨⟨i + 1, mstep b (L.getD i default), by omega, hnext hlt'⟩, [], by dsimp only; omega, rfl, ?_, ?_⟩
      · repeat' (first | exact trivial | exact rfl | exact leF_ptr rfl | exact leF_int rfl | exact leF_bool rfl | exact leF_cl (cl_slB _ _) | exact leF_cl (cl_slR _ _) | exact leF_c (leC_os rfl rfl) | refine leF_int ?_ | refine leF_bool ?_ | exact leN_varA (fun _ _ => (Elem.flat _ _ _).le) | exact leN_varA (fun _ _ => leC_top) | apply And.intro)
        (dsimp only; rw [IntWalk.i64_in _ (by omega)]; omega)
      · repeat' (first | exact trivial | exact rfl | exact leF_ptr rfl | exact leF_int rfl | exact leF_bool rfl | exact leF_cl (cl_slB _ _) | exact leF_cl (cl_slR _ _) | exact leF_c (leC_os rfl rfl) | refine leF_int ?_ | refine leF_bool ?_ | exact leN_varA (fun _ _ => (Elem.flat _ _ _).le) | exact leN_varA (fun _ _ => leC_top) | apply And.intro)
        exact tapeN_le
    rename_i r6 hr6 q3 hq3 cst hcst
    have hb' := hend (by omega)
    clear hb hnext hend
    subst hb'
    refine loop_intro (mono_of LZ_ok) (fun s : ScS L => (⟨[(1, one (.int .i64 gap)), (6, one (slR eOp L)), (7, one (.int .i64 (bf L).cost)), (10, one (.ptr 18 0 0 false)), (11, one (.int .i64 s.ch)), (12, one (.int .i64 s.now))],
      [(18, some ⟨63, 1, 3, true, fun _ => eCh.cell s.c⟩)], 22⟩ : Hd)) (fun s => (22 - s.now).toNat) (fun _ => rfl) ?_ ⟨0, ⟨IntKind.u64.wrap r6, cst, -1⟩, 0, by omega, ?_⟩ [] ?_
    · rintro ⟨now, c, ch, h0, hI⟩
      dsimp only at h0 hI ⊢
      have hx := choose_eq hv (now := now) (by omega) hI.1
      obtain ⟨x, ex⟩ : ∃ x, x = (chooseF now c L).1 := ⟨_, rfl⟩
      have hst := settle_step hv (now := now) (by omega) hI ex
      have ex2 : chooseF now c L = (x, 0) := by rw [ex, hx]
      obtain ⟨hst1, hst2⟩ := hst
      have f1 : 9 ≤ now → x.cost = (bf L).cost := fun h => (hst2 h).1
      have f2 : 9 ≤ now → c.cost = (bf L).cost → x.nb = c.nb := fun h => (hst2 h).2
      clear hst2 hx ex
      have hch : 0 ≤ ch ∧ ch ≤ 1 := by rcases hI.2 with h | h | h <;> omega
      repeat' (first | (apply And.intro <;> intro hc <;> (first | exact Bool.noConfusion hc | (simp only [decide_eq_true_eq, decide_eq_false_iff_not, Bool.not_eq_true', Bool.not_eq_false', beq_iff_eq, beq_eq_false_iff_ne, bne_iff_ne, bne_eq_false_iff_eq, Bool.true_eq_false, Bool.false_eq_true, ne_eq, not_true_eq_false] at hc <;> first | exact absurd rfl hc | skip) | skip)) | (refine And.intro (by first | exact trivial | decide | omega | (dsimp only; omega) | exact fun _ _ => rfl | exact ⟨by assumption, by first | exact trivial | decide | omega | (dsimp only; omega)⟩) ?_) | (apply And.intro) | (intro s hs; (first | (have hs' : s = true := hs; clear hs; subst hs') | (have hs' : s = (x, 0) := (hs.trans (ch_congr (rd_ch c) (toL_op L))).trans ex2; clear hs; subst hs') | (have hs' : s = modF gap 3 := hs; clear hs; subst hs') | skip)))
      all_goals first
        | (dsimp only; rw [toL_op]; omega)
        | (exfalso; first | omega | (have := f1 (by assumption); contradiction) | (have := f2 (by assumption) (by assumption); contradiction))
        | (refine ⟨⟨now + 1 + modF gap 3, x, if x.nb = c.nb then ch else ch + 1, by omega, hst1 _⟩, [], by dsimp only; omega, rfl, ?_, ?_⟩
           · repeat' (first | exact trivial | exact rfl | exact leF_ptr rfl | exact leF_int rfl | exact leF_bool rfl | exact leF_cl (cl_slB _ _) | exact leF_cl (cl_slR _ _) | exact leF_c (leC_os rfl rfl) | refine leF_int ?_ | refine leF_bool ?_ | exact leN_varA (fun _ _ => (Elem.flat _ _ _).le) | exact leN_varA (fun _ _ => leC_top) | apply And.intro)
             all_goals first
               | (dsimp only; rw [IntWalk.i64_in (1 + modF gap 3) (by omega), IntWalk.i64_in _ (by omega)]; omega)
               | (dsimp only; rw [if_pos (by assumption)]; done)
               | (dsimp only; rw [if_neg (by assumption)]; exact IntWalk.i64_in _ (by omega))
           · repeat' (first | exact trivial | exact rfl | exact leF_ptr rfl | exact leF_int rfl | exact leF_bool rfl | exact leF_cl (cl_slB _ _) | exact leF_cl (cl_slR _ _) | exact leF_c (leC_os rfl rfl) | refine leF_int ?_ | refine leF_bool ?_ | exact leN_varA (fun _ _ => (Elem.flat _ _ _).le) | exact leN_varA (fun _ _ => leC_top) | apply And.intro)
             (change LeN _ _ _; refine leN_var ?_; repeat' (first | exact trivial | exact leC_int rfl | apply And.intro)))
        | exact Done.mk (leF_bool rfl)
        | skip
    · refine ⟨?_, .inl ⟨rfl, rfl, rfl⟩⟩
      have hcst' : 0 ≤ cst ∧ cst < 65535 := hcst
      simp [vchoice, mvl]
      omega
    · refine ⟨rfl, ?_, ?_⟩
      · repeat' (first | exact trivial | exact rfl | exact leF_ptr rfl | exact leF_int rfl | exact leF_bool rfl | exact leF_cl (cl_slB _ _) | exact leF_cl (cl_slR _ _) | exact leF_c (leC_os rfl rfl) | refine leF_int ?_ | refine leF_bool ?_ | exact leN_varA (fun _ _ => (Elem.flat _ _ _).le) | exact leN_varA (fun _ _ => leC_top) | apply And.intro)
      · repeat' (first | exact trivial | exact rfl | exact leF_ptr rfl | exact leF_int rfl | exact leF_bool rfl | exact leF_cl (cl_slB _ _) | exact leF_cl (cl_slR _ _) | exact leF_c (leC_os rfl rfl) | refine leF_int ?_ | refine leF_bool ?_ | exact leN_varA (fun _ _ => (Elem.flat _ _ _).le) | exact leN_varA (fun _ _ => leC_top) | apply And.intro)
        (change LeN _ _ _; refine leN_var ?_; repeat' (first | exact trivial | exact leC_int rfl | apply And.intro))
  · refine ⟨rfl, ?_, ?_⟩
    · repeat' (first | exact trivial | exact rfl | exact leF_ptr rfl | exact leF_int rfl | exact leF_bool rfl | exact leF_cl (cl_slB _ _) | exact leF_cl (cl_slR _ _) | exact leF_c (leC_os rfl rfl) | refine leF_int ?_ | refine leF_bool ?_ | exact leN_varA (fun _ _ => (Elem.flat _ _ _).le) | exact leN_varA (fun _ _ => leC_top) | apply And.intro)
    · repeat' (first | exact trivial | exact rfl | exact leF_ptr rfl | exact leF_int rfl | exact leF_bool rfl | exact leF_cl (cl_slB _ _) | exact leF_cl (cl_slR _ _) | exact leF_c (leC_os rfl rfl) | refine leF_int ?_ | refine leF_bool ?_ | exact leN_varA (fun _ _ => (Elem.flat _ _ _).le) | exact leN_varA (fun _ _ => leC_top) | apply And.intro)
      exact tapeN_le
end Go.Proofs.Ytolliidpmgncdaa.AX
