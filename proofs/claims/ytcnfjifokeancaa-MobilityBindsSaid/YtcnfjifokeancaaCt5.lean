/- Package contexts: Set (by AX2). -/
import Derived.Test.YtcnfjifokeancaaCt4
namespace Go.Proofs.Ytcnfjifokeancaa.AX
set_option linter.unusedVariables false
set_option linter.unusedSimpArgs false
def setL (c : Ctx) : List Ctx → List Ctx
  | [] => [c]
  | d :: l => if d.id < c.id then d :: setL c l else if d.id = c.id then c :: l else c :: d :: l
def setF (l : List Ctx) (c : Ctx) : List Ctx × Int := if validT l = true ∧ validT [c] = true then (setL c l, 0) else ([], 1)
def restAt (l : List Ctx) (i : Nat) (c : Ctx) : List Ctx := if i < l.length ∧ (l.getD i default).id = c.id then l.drop (i + 1) else l.drop i
theorem set_at {c : Ctx} : ∀ (l : List Ctx) (i : Nat), i ≤ l.length → (∀ j, j < i → (l.getD j default).id < c.id) → (i < l.length → ¬ (l.getD i default).id < c.id) → setL c l = l.take i ++ c :: restAt l i c := by
  intro l
  induction l with
  | nil => intro i hi _ _; have : i = 0 := by simpa using hi
           subst this; simp [setL, restAt]
  | cons d l ih =>
    intro i hi h1 h2
    cases i with
    | zero =>
      have := h2 (by simp)
      simp only [List.getD_cons_zero] at this
      simp only [setL, if_neg this]
      by_cases h : d.id = c.id
      · rw [if_pos h, restAt, if_pos ⟨by simp, by simpa using h⟩]; simp
      · rw [if_neg h, restAt, if_neg (by simp [h])]; simp
    | succ i =>
      have h0 := h1 0 (by omega)
      simp only [List.getD_cons_zero] at h0
      simp only [setL, if_pos h0]
      rw [ih i (by simpa using hi) (fun j hj => by simpa using h1 (j + 1) (by omega)) (fun hl => by simpa using h2 (by simpa using hl))]
      simp [restAt]
theorem beq_of {a b : Nat} (h : a = b) : Nat.beq a b = true := by subst h; simp
theorem beq_ne {a b : Nat} (h : a ≠ b) : Nat.beq a b = false := by
  cases hb : Nat.beq a b with
  | false => rfl
  | true => exact absurd (Nat.eq_of_beq_eq_true hb) h
theorem leC_cell {c : Wc} {α : Type} {E : Elem α} {a b : α} {j : Nat} (h : a = b) : LeC c (E.cell a j) (E.cell b j) := by rw [h]; exact (E.flat _ _).le
theorem get_lo {l rest : List Ctx} {x : Ctx} {i q : Nat} (hi : i ≤ l.length) (h : q < i) : (l.take i ++ x :: rest).getD q default = l.getD q default := by
  rw [List.getD_eq_getElem?_getD, List.getElem?_append_left (by rw [List.length_take]; omega), List.getElem?_take_of_lt h, List.getD_eq_getElem?_getD]
theorem get_at {l rest : List Ctx} {x : Ctx} {i : Nat} (hi : i ≤ l.length) : (l.take i ++ x :: rest).getD i default = x := by
  rw [List.getD_eq_getElem?_getD, List.getElem?_append_right (by rw [List.length_take]; omega), List.length_take, Nat.min_eq_left hi, Nat.sub_self]; rfl
theorem get_hi {l rest : List Ctx} {x : Ctx} {i q : Nat} (hi : i ≤ l.length) (h : i < q) : (l.take i ++ x :: rest).getD q default = rest.getD (q - (i + 1)) default := by
  rw [List.getD_eq_getElem?_getD, List.getElem?_append_right (by rw [List.length_take]; omega), List.length_take, Nat.min_eq_left hi, show q - i = (q - (i + 1)) + 1 by omega, List.getElem?_cons_succ, List.getD_eq_getElem?_getD]
theorem drop_getD {l : List Ctx} {k q : Nat} : (l.drop k).getD q default = l.getD (k + q) default := by
  rw [List.getD_eq_getElem?_getD, List.getElem?_drop, List.getD_eq_getElem?_getD]
set_option maxRecDepth 10000 in
theorem set_ok (l : List Ctx) (c : Ctx) (hl : l.length ≤ 2932031007317) : PureOk Try.prog 28 [(cSl eCtx eCtx_sz).enc l, (cE eCtx).enc c] (encLE (setF l c)) := by
  have key : ∀ Y : Nat → CV, eCtx.rd (fun j => selC true (eCtx.cell c (0 + j)) (Y j)) = c := fun Y => by simp only [selC_true]; exact rd_ctx c
  have key2 : ∀ Y : Nat → CV, eCtx.ok (fun j => selC true (eCtx.cell c (0 + j)) (Y j)) = true := fun Y => by simp only [selC_true, Nat.zero_add]; exact eCtx_ok c
  refine pure_intro (wd := 1) (Q := mkQ LE3) (by decide) tysOk (q_of LE3_ok) mixed Try.func28 rfl _ (by show 2 ≤ _; decide) _ ?_
  repeat' (first | (apply And.intro <;> intro hc <;> (first | exact Bool.noConfusion hc | (simp only [decide_eq_true_eq, decide_eq_false_iff_not, Bool.not_eq_true', Bool.not_eq_false', beq_iff_eq, beq_eq_false_iff_ne, bne_iff_ne, bne_eq_false_iff_eq, Bool.true_eq_false, Bool.false_eq_true] at hc) | skip)) | (refine And.intro (by first | exact trivial | decide | omega | (dsimp only; omega) | exact fun _ _ => rfl) ?_) | (apply And.intro) | (intro s hs))
  · show (toL eCtx l.length (rowF eCtx l)).length ≤ _
    rw [toL_ctx]; omega
  · have e1 : s = validT l := by rw [hs, toL_ctx]
    have hf : s = false := by assumption
    have e : setF l c = ([], 1) := by simp [setF, ← e1, hf]
    rw [e]
    exact Done.mk (leF_tup ⟨leC_nils_sl rfl, leC_int rfl, trivial⟩)
  · have : s = 0 := by omega
    subst this
    exact key2 _
  · show (toL eCtx 1 _).length ≤ _
    rw [toL_len]; omega
  · have e2 : s = validT [c] := hs.trans (congrArg (fun x => validT [x]) (key _))
    have e : setF l c = ([], 1) := by simp [setF, ← e2, hc]
    rw [e]
    exact Done.mk (leF_tup ⟨leC_nils_sl rfl, leC_int rfl, trivial⟩)
  · rename_i s1 hs1 hc1
    have e1 : s1 = validT l := by rw [hs1, toL_ctx]
    have e2 : s = validT [c] := hs.trans (congrArg (fun x => validT [x]) (key _))
    have e : setF l c = (setL c l, 0) := by simp [setF, ← e1, ← e2, hc, hc1]
    rw [e]
    clear hs hs1 e1 e2 hc hc1 e
    refine loop_intro (mono_of LE3_ok) (fun i : {i : Nat // i ≤ l.length ∧ ∀ j, j < i → (l.getD j default).id < c.id} => (⟨[(0, one (.sl false l.length eCtx.sz (rowF eCtx l))), (3, one (.ptr 0 0 0 false)), (6, one (.int .i64 (i.1 : Int)))],
      [(0, some ⟨41, 1, 20, true, fun _ => eCtx.cell c⟩)], 13⟩ : Hd)) (fun i => l.length - i.1) (fun _ => rfl) ?_ ⟨0, by omega, fun j h => by omega⟩ [] ?_
    · rintro ⟨i, hi, hv⟩
      dsimp only at hi hv ⊢
      have w1 : IntKind.i64.wrap ((i : Int) + 1) = (i : Int) + 1 := IntWalk.i64_in _ (by omega)
      have w2 : IntKind.i64.wrap (IntKind.i64.wrap ((i : Int) + 1) + ((l.length - ((i : Int)).toNat - Int.toNat 1 : Nat) : Int)) = (i : Int) + 1 + ((l.length - i - 1 : Nat) : Int) := by
        rw [w1]; refine (IntWalk.i64_in _ (by omega)).trans (by omega)
      have w3 : IntKind.i64.wrap (IntKind.i64.wrap ((i : Int) + 1) + ((l.length - ((i : Int)).toNat : Nat) : Int)) = (i : Int) + 1 + ((l.length - i : Nat) : Int) := by
        rw [w1]; refine (IntWalk.i64_in _ (by omega)).trans (by omega)
      repeat' (first | (apply And.intro <;> intro hc <;> (first | exact Bool.noConfusion hc | (simp only [decide_eq_true_eq, decide_eq_false_iff_not, Bool.not_eq_true', Bool.not_eq_false', beq_iff_eq, beq_eq_false_iff_ne, bne_iff_ne, bne_eq_false_iff_eq, Bool.true_eq_false, Bool.false_eq_true] at hc) | skip)) | (refine And.intro (by first | exact trivial | decide | omega | (dsimp only; omega) | exact fun _ _ => rfl) ?_) | (apply And.intro) | (intro s hs))
      · have hid : (l.getD i default).id < c.id := hc
        refine ⟨⟨i + 1, by omega, fun j hj => ?_⟩, [], by dsimp only; omega, rfl, ?_, ?_⟩
        · by_cases e : j = i
          · rw [e]; exact hid
          · exact hv j (by omega)
        · repeat' (first | exact trivial | exact rfl | exact leF_ptr rfl | exact leF_int rfl | exact leF_bool rfl | exact leF_cl (cl_slB _ _) | exact leF_cl (cl_slR _ _) | exact leF_c (leC_os rfl rfl) | refine leF_int ?_ | refine leF_bool ?_ | exact leN_varA (fun _ _ => (Elem.flat _ _ _).le) | exact leN_varA (fun _ _ => leC_top) | apply And.intro)
          exact w1
        · repeat' (first | exact trivial | exact rfl | exact leF_ptr rfl | exact leF_int rfl | exact leF_bool rfl | exact leF_cl (cl_slB _ _) | exact leF_cl (cl_slR _ _) | exact leF_c (leC_os rfl rfl) | refine leF_int ?_ | refine leF_bool ?_ | exact leN_varA (fun _ _ => (Elem.flat _ _ _).le) | exact leN_varA (fun _ _ => leC_top) | apply And.intro)
      · have hid : ¬ (l.getD i default).id < c.id := by assumption
        have heq : (l.getD i default).id = c.id := hc
        have hlt : i < l.length := by omega
        have e := set_at l i hi hv (fun _ => hid)
        have er : restAt l i c = l.drop (i + 1) := if_pos ⟨hlt, heq⟩
        rw [er] at e
        rw [e]
        clear hc hid heq e er key key2
        refine Done.mk (leF_tup ⟨?_, leC_int rfl, trivial⟩)
        refine leC_os_sl rfl rfl rfl ?_ ?_ fun q hq j hj => ?_
        · simp only [List.length_append, List.length_take, List.length_cons, List.length_drop]; omega
        · exact Nat.le_of_eq (Nat.zero_add _)
        · rcases Nat.lt_trichotomy q i with h | h | h
          · refine selC_out (rng_out (by omega)) (selC_out (beq_ne (by omega)) (selC_in (rng_in (by unfold Nat.min; constructor <;> (try split) <;> omega)) ?_))
            refine leC_cell (E := eCtx) ?_
            rw [get_lo hi h]
            exact congrArg (fun k => l.getD k default) (by omega)
          · refine selC_out (rng_out (by omega)) (selC_in (beq_of (by omega)) ?_)
            rw [h]
            show LeC _ (eCtx.cell c (0 + j)) (eCtx.cell ((l.take i ++ c :: _).getD i default) j)
            rw [get_at hi, Nat.zero_add j]
            exact (eCtx.flat _ _).le
          · refine selC_in (rng_in (by unfold Nat.min; constructor <;> (try split) <;> omega)) ?_
            refine leC_cell (E := eCtx) ?_
            rw [get_hi hi h, drop_getD]
            exact congrArg (fun k => l.getD k default) (by omega)
      · have hid : ¬ (l.getD i default).id < c.id := by assumption
        have heq : (l.getD i default).id ≠ c.id := hc
        have hlt : i < l.length := by omega
        have e := set_at l i hi hv (fun _ => hid)
        have er : restAt l i c = l.drop i := if_neg (fun h => heq h.2)
        rw [er] at e
        rw [e]
        clear hc hid heq e er key key2
        refine Done.mk (leF_tup ⟨?_, leC_int rfl, trivial⟩)
        refine leC_os_sl rfl rfl rfl ?_ ?_ fun q hq j hj => ?_
        · simp only [List.length_append, List.length_take, List.length_cons, List.length_drop]; omega
        · exact Nat.le_of_eq (Nat.zero_add _)
        · rcases Nat.lt_trichotomy q i with h | h | h
          · refine selC_out (rng_out (by omega)) (selC_out (beq_ne (by omega)) (selC_in (rng_in (by unfold Nat.min; constructor <;> (try split) <;> omega)) ?_))
            refine leC_cell (E := eCtx) ?_
            rw [get_lo hi h]
            exact congrArg (fun k => l.getD k default) (by omega)
          · refine selC_out (rng_out (by omega)) (selC_in (beq_of (by omega)) ?_)
            rw [h]
            show LeC _ (eCtx.cell c (0 + j)) (eCtx.cell ((l.take i ++ c :: _).getD i default) j)
            rw [get_at hi, Nat.zero_add j]
            exact (eCtx.flat _ _).le
          · refine selC_in (rng_in (by unfold Nat.min; constructor <;> (try split) <;> omega)) ?_
            refine leC_cell (E := eCtx) ?_
            rw [get_hi hi h, drop_getD]
            exact congrArg (fun k => l.getD k default) (by omega)
      all_goals first
        | (exfalso; omega)
        | skip
      · have hlt : i = l.length := by omega
        have e := set_at l i hi hv (fun h => absurd h (by omega))
        have er : restAt l i c = l.drop i := if_neg (fun h => absurd h.1 (by omega))
        rw [er] at e
        rw [e]
        clear hc e er key key2
        refine Done.mk (leF_tup ⟨?_, leC_int rfl, trivial⟩)
        refine leC_os_sl rfl rfl rfl ?_ ?_ fun q hq j hj => ?_
        · simp only [List.length_append, List.length_take, List.length_cons, List.length_drop]; omega
        · exact Nat.le_of_eq (Nat.zero_add _)
        · rcases Nat.lt_trichotomy q i with h | h | h
          · refine selC_out (rng_out (by omega)) (selC_out (beq_ne (by omega)) (selC_in (rng_in (by unfold Nat.min; constructor <;> (try split) <;> omega)) ?_))
            refine leC_cell (E := eCtx) ?_
            rw [get_lo hi h]
            exact congrArg (fun k => l.getD k default) (by omega)
          · refine selC_out (rng_out (by omega)) (selC_in (beq_of (by omega)) ?_)
            rw [h]
            show LeC _ (eCtx.cell c (0 + j)) (eCtx.cell ((l.take i ++ c :: _).getD i default) j)
            rw [get_at hi, Nat.zero_add j]
            exact (eCtx.flat _ _).le
          · refine selC_in (rng_in (by unfold Nat.min; constructor <;> (try split) <;> omega)) ?_
            refine leC_cell (E := eCtx) ?_
            rw [get_hi hi h, drop_getD]
            exact congrArg (fun k => l.getD k default) (by omega)
    · refine ⟨rfl, ?_, ?_⟩
      · repeat' (first | exact trivial | exact rfl | exact leF_ptr rfl | exact leF_int rfl | exact leF_bool rfl | exact leF_cl (cl_slB _ _) | exact leF_cl (cl_slR _ _) | exact leF_c (leC_os rfl rfl) | refine leF_int ?_ | refine leF_bool ?_ | exact leN_varA (fun _ _ => (Elem.flat _ _ _).le) | exact leN_varA (fun _ _ => leC_top) | apply And.intro)
      · repeat' (first | exact trivial | exact rfl | exact leF_ptr rfl | exact leF_int rfl | exact leF_bool rfl | exact leF_cl (cl_slB _ _) | exact leF_cl (cl_slR _ _) | exact leF_c (leC_os rfl rfl) | refine leF_int ?_ | refine leF_bool ?_ | exact leN_varA (fun _ _ => (Elem.flat _ _ _).le) | exact leN_varA (fun _ _ => leC_top) | apply And.intro)
end Go.Proofs.Ytcnfjifokeancaa.AX
