/- The reference of layer 12: Set, the walk. -/
import Derived.Test.YtcnfjifokeancaaR12e
namespace Go.Proofs.Ytcnfjifokeancaa.AX
open Go.RowKit
set_option linter.unusedVariables false
set_option linter.unusedSimpArgs false
structure RsS (l : List Ctx) (c : Ctx) where
  i : Nat
  out : List Ctx
  put : Bool
  hi : i ≤ l.length
  hn : out.length ≤ 2 * i
  h : rset c false l = out ++ rset c put (l.drop i)
theorem valid_len : ∀ (l : List Ctx) (b : Int), validFrom b l = true → -1 ≤ b → (l.length : Int) ≤ 15 - b ∨ l = [] := by
  intro l
  induction l with
  | nil => intro b _ _; exact .inr rfl
  | cons d l ih =>
    intro b hv hb
    obtain ⟨g1, g2, g3, g4, g5⟩ := valid_cons.1 hv
    left
    rcases ih d.id g5 (by omega) with h | h
    · simp; omega
    · subst h; simp; omega
theorem valid_le {l : List Ctx} (h : validT l = true) : l.length ≤ 16 := by
  rcases valid_len l (-1) h (by omega) with h | h
  · omega
  · subst h; simp
theorem blt_lt {a b : Nat} (h : a < b) : Nat.blt a b = true := Nat.ble_eq_true_of_le h
theorem leN_snoc2 {c : Wc} {t : TypeId} {α : Type} [Inhabited α] {E : Elem α} {L : List α} {x y : α} {n : Nat} {f : Nat → Nat → CV} (hn : n = L.length + 2) (h1 : ∀ i, i < L.length → ∀ j, j < E.sz → LeC c (f i j) (rowF E L i j)) (h2 : allLt E.sz fun j => LeC c (f L.length j) (E.cell x j)) (h3 : allLt E.sz fun j => LeC c (f (L.length + 1) j) (E.cell y j)) :
    LeN c ⟨t, n, E.sz, false, f⟩ (ents E t (L ++ [x, y])) := by
  refine ⟨rfl, by simp [ents, hn], rfl, rfl, fun i hi j hj => ?_⟩
  have hi' : i < n := hi
  show LeC c (f i j) (E.cell ((L ++ [x, y]).getD i default) j)
  rcases Nat.lt_or_ge i L.length with h | h
  · have : (L ++ [x, y]).getD i default = L.getD i default := by
      simp [List.getD_eq_getElem?_getD, List.getElem?_append_left h]
    rw [this]
    exact h1 i h j hj
  · rcases Nat.lt_or_ge L.length i with h' | h'
    · have hi2 : i = L.length + 1 := by omega
      subst hi2
      have : (L ++ [x, y]).getD (L.length + 1) default = y := by simp [List.getD_eq_getElem?_getD, List.getElem?_append_right]
      rw [this]
      exact allLt_at h3 j hj
    · have hi2 : i = L.length := by omega
      subst hi2
      have : (L ++ [x, y]).getD L.length default = x := by simp [List.getD_eq_getElem?_getD]
      rw [this]
      exact allLt_at h2 j hj
theorem leC_fin {c : Wc} {k n : Nat} {t : TypeId} {α : Type} [Inhabited α] {E : Elem α} {L : List α} {e : Ent} (he : hget c.H k = some e) (hd : c.dead k = true) (hn : n = L.length) (h : LeN c e (ents E t L)) : LeC c (.os k 0 n) (slR E L) :=
  leC_os_sl he hd h.sz hn (by have h1 : e.n = L.length := h.n
                              omega) fun q hq j hj => by
    rw [Nat.zero_add]
    have h1 : e.n = L.length := h.n
    have h2 : e.sz = E.sz := h.sz
    exact h.f q (by omega) j (by omega)
set_option maxHeartbeats 4000000 in
set_option maxRecDepth 20000 in
theorem rset_ok (l : List Ctx) (c : Ctx) (hl : bytesL l) (hc0 : byteOk c.ip) : PureOk Try.prog 61 [(cSl eCtx eCtx_sz).enc l, (cE eCtx).enc c] (encLE (setF l c)) := by
  have hn := hl.n
  have key : ∀ Y : Nat → CV, eCtx.rd (fun j => selC true (eCtx.cell c (0 + j)) (Y j)) = c := fun Y => by simp only [selC_true]; exact rd_ctx c
  have key2 : ∀ Y : Nat → CV, eCtx.ok (fun j => selC true (eCtx.cell c (0 + j)) (Y j)) = true := fun Y => by simp only [selC_true, Nat.zero_add]; exact eCtx_ok c
  refine pure_intro (wd := 1) (Q := mkQ LQ1) (by decide) tysOk (q_of LQ1_ok) mixed Try.func61 rfl _ (by show 2 ≤ _; decide) _ ?_
  repeat' (first | (apply And.intro <;> intro hc <;> (first | exact Bool.noConfusion hc | (simp only [decide_eq_true_eq, decide_eq_false_iff_not, Bool.not_eq_true', Bool.not_eq_false', beq_iff_eq, beq_eq_false_iff_ne, bne_iff_ne, bne_eq_false_iff_eq, Bool.true_eq_false, Bool.false_eq_true] at hc) | skip)) | (refine And.intro (by first | exact trivial | decide | omega | (dsimp only; omega) | exact fun _ _ => rfl) ?_) | (apply And.intro) | (intro s hs))
  · show bytesL (toL eCtx l.length (rowF eCtx l))
    rw [toL_ctx]; exact hl
  · have e1 : s = validT l := by rw [hs, toL_ctx]
    have hf : s = false := by assumption
    have e : setF l c = ([], 1) := by simp [setF, ← e1, hf]
    rw [e]
    exact Done.mk (leF_tup ⟨leC_nils_sl rfl, leC_int rfl, trivial⟩)
  · have : s = 0 := by omega
    subst this
    exact key2 _
  · show bytesL [eCtx.rd (fun j => selC true (eCtx.cell c (0 + j)) _)]
    rw [key]
    exact ⟨fun d hd => by rw [List.mem_singleton.1 hd]; exact hc0, by simp⟩
  · have e2 : s = validT [c] := hs.trans (congrArg (fun x => validT [x]) (key _))
    have e : setF l c = ([], 1) := by simp [setF, ← e2, hc]
    rw [e]
    exact Done.mk (leF_tup ⟨leC_nils_sl rfl, leC_int rfl, trivial⟩)
  · rename_i s1 hs1 hc1
    have e1 : s1 = validT l := by rw [hs1, toL_ctx]
    have e2 : s = validT [c] := hs.trans (congrArg (fun x => validT [x]) (key _))
    have v1 : validT l = true := by rw [← e1]; exact hc1
    have e : setF l c = (rset c false l, 0) := by rw [rset_eq l (-1) v1]; simp [setF, ← e1, ← e2, hc, hc1]
    rw [e]
    have h16 := valid_le v1
    clear hs hs1 e1 e2 hc hc1 e
    refine loop_intro (mono_of LQ1_ok) (fun s : RsS l c => (⟨[(0, one (.sl false l.length eCtx.sz (rowF eCtx l))), (3, one (.ptr 0 0 0 false)), (6, one (.os 7 0 s.out.length)), (7, one (.bool s.put)), (8, one (.int .i64 (s.i : Int)))],
      [(0, some ⟨41, 1, 20, true, fun _ => eCtx.cell c⟩), (7, some (ents eCtx 41 s.out))], 20⟩ : Hd)) (fun s => l.length - s.i) (fun _ => rfl) ?_ ⟨0, [], false, by omega, by simp, rfl⟩ [(7, none)] ?_
    · rintro ⟨i, out, put, hi, hno, hv⟩
      dsimp only at hi hno hv ⊢
      repeat' (first | (apply And.intro <;> intro hc <;> (first | exact Bool.noConfusion hc | (simp only [decide_eq_true_eq, decide_eq_false_iff_not, Bool.not_eq_true', Bool.not_eq_false', beq_iff_eq, beq_eq_false_iff_ne, bne_iff_ne, bne_eq_false_iff_eq, Bool.true_eq_false, Bool.false_eq_true] at hc) | skip)) | (refine And.intro (by first | exact trivial | decide | omega | (dsimp only; omega) | exact fun _ _ => rfl) ?_) | (apply And.intro) | (intro s hs))
      · have hk : c.id ≤ (l.getD i default).id := by assumption
        have hne : (l.getD i default).id ≠ c.id := hc
        have hp : put = false := by assumption
        refine ⟨⟨i + 1, out ++ [c, l.getD i default], true, by omega, by simp; omega, ?_⟩, [(7, some 56)], by dsimp only; omega, rfl, ?_, ?_⟩
        · rw [hv, rset_step put (by omega), if_pos ⟨hp, hk⟩, if_neg hne, decide_eq_true hk, Bool.or_true]; simp
        · repeat' (first | exact trivial | exact rfl | exact leF_ptr rfl | exact leF_int rfl | exact leF_bool rfl | exact leF_cl (cl_slB _ _) | exact leF_cl (cl_slR _ _) | exact leF_c (leC_os rfl rfl) | refine leF_int ?_ | refine leF_bool ?_ | exact leN_varA (fun _ _ => (Elem.flat _ _ _).le) | exact leN_varA (fun _ _ => leC_top) | apply And.intro)
          · exact leF_c (leC_os rfl (by simp))
          · (dsimp only; rw [IntWalk.i64_in _ (by omega)]; omega)
        · repeat' (first | exact trivial | exact rfl | exact leF_ptr rfl | exact leF_int rfl | exact leF_bool rfl | exact leF_cl (cl_slB _ _) | exact leF_cl (cl_slR _ _) | exact leF_c (leC_os rfl rfl) | refine leF_int ?_ | refine leF_bool ?_ | exact leN_varA (fun _ _ => (Elem.flat _ _ _).le) | exact leN_varA (fun _ _ => leC_top) | apply And.intro)
          change LeN _ _ _
          refine leN_snoc2 (E := eCtx) (L := out) (x := c) (y := l.getD i default) rfl (fun q hq j hj => selC_in (blt_lt (by omega)) (selC_in (blt_lt hq) (Elem.flat _ _ _).le)) ?_ ?_
          · repeat' (first | exact trivial | (refine selC_in (blt_lt (by omega)) (selC_out (blt_self _) ?_); rw [Nat.sub_self]; first | exact leC_int rfl | exact leC_bool rfl) | apply And.intro)
          · repeat' (first | exact trivial | (refine selC_out (blt_self _) ?_; rw [Nat.sub_self]; first | exact leC_int rfl | exact leC_bool rfl) | apply And.intro)
      · have hk : c.id ≤ (l.getD i default).id := by assumption
        have he : (l.getD i default).id = c.id := hc
        have hp : put = false := by assumption
        refine ⟨⟨i + 1, out ++ [c], true, by omega, by simp; omega, ?_⟩, [(7, some 39)], by dsimp only; omega, rfl, ?_, ?_⟩
        · rw [hv, rset_step put (by omega), if_pos ⟨hp, hk⟩, if_pos he, decide_eq_true hk, Bool.or_true]; simp
        · repeat' (first | exact trivial | exact rfl | exact leF_ptr rfl | exact leF_int rfl | exact leF_bool rfl | exact leF_cl (cl_slB _ _) | exact leF_cl (cl_slR _ _) | exact leF_c (leC_os rfl rfl) | refine leF_int ?_ | refine leF_bool ?_ | exact leN_varA (fun _ _ => (Elem.flat _ _ _).le) | exact leN_varA (fun _ _ => leC_top) | apply And.intro)
          · exact leF_c (leC_os rfl (by simp))
          · (dsimp only; rw [IntWalk.i64_in _ (by omega)]; omega)
        · repeat' (first | exact trivial | exact rfl | exact leF_ptr rfl | exact leF_int rfl | exact leF_bool rfl | exact leF_cl (cl_slB _ _) | exact leF_cl (cl_slR _ _) | exact leF_c (leC_os rfl rfl) | refine leF_int ?_ | refine leF_bool ?_ | exact leN_varA (fun _ _ => (Elem.flat _ _ _).le) | exact leN_varA (fun _ _ => leC_top) | apply And.intro)
          (change LeN _ _ _; refine leN_snoc (E := eCtx) (L := out) (x := c) rfl (fun i hi j hj => selC_in (Nat.ble_eq_true_of_le hi) (Elem.flat _ _ _).le) ?_; repeat' (first | exact trivial | (refine selC_out (blt_self _) ?_; rw [Nat.sub_self]; first | exact leC_int rfl | exact leC_bool rfl | exact leC_bool (by assumption)) | apply And.intro))
      · have hne : (l.getD i default).id ≠ c.id := hc
        have hp : put = false := by assumption
        have hk : ¬ c.id ≤ (l.getD i default).id := by assumption
        have hx : ¬ (put = false ∧ c.id ≤ (l.getD i default).id) := fun h => hk h.2
        have hy : (put || decide (c.id ≤ (l.getD i default).id)) = put := by rw [decide_eq_false hk, Bool.or_false]
        refine ⟨⟨i + 1, out ++ [l.getD i default], put, by omega, by simp; omega, ?_⟩, [(7, some 50)], by dsimp only; omega, rfl, ?_, ?_⟩
        · rw [hv, rset_step put (by omega), if_neg hx, if_neg hne, hy]; simp
        · repeat' (first | exact trivial | exact rfl | exact leF_ptr rfl | exact leF_int rfl | exact leF_bool rfl | exact leF_cl (cl_slB _ _) | exact leF_cl (cl_slR _ _) | exact leF_c (leC_os rfl rfl) | refine leF_int ?_ | refine leF_bool ?_ | exact leN_varA (fun _ _ => (Elem.flat _ _ _).le) | exact leN_varA (fun _ _ => leC_top) | apply And.intro)
          · exact leF_c (leC_os rfl (by simp))
          · (dsimp only; rw [IntWalk.i64_in _ (by omega)]; omega)
        · repeat' (first | exact trivial | exact rfl | exact leF_ptr rfl | exact leF_int rfl | exact leF_bool rfl | exact leF_cl (cl_slB _ _) | exact leF_cl (cl_slR _ _) | exact leF_c (leC_os rfl rfl) | refine leF_int ?_ | refine leF_bool ?_ | exact leN_varA (fun _ _ => (Elem.flat _ _ _).le) | exact leN_varA (fun _ _ => leC_top) | apply And.intro)
          (change LeN _ _ _; refine leN_snoc (E := eCtx) (L := out) (x := l.getD i default) rfl (fun i hi j hj => selC_in (Nat.ble_eq_true_of_le hi) (Elem.flat _ _ _).le) ?_; repeat' (first | exact trivial | (refine selC_out (blt_self _) ?_; rw [Nat.sub_self]; first | exact leC_int rfl | exact leC_bool rfl | exact leC_bool (by assumption)) | apply And.intro))
      · have hk : ¬ c.id ≤ (l.getD i default).id := by assumption
        have he : (l.getD i default).id = c.id := hc
        omega
      · have hne : (l.getD i default).id ≠ c.id := hc
        have hp : put = true := by assumption
        have hx : ¬ (put = false ∧ c.id ≤ (l.getD i default).id) := fun h => by rw [hp] at h; cases h.1
        have hy : (put || decide (c.id ≤ (l.getD i default).id)) = put := by rw [hp, Bool.true_or]
        refine ⟨⟨i + 1, out ++ [l.getD i default], put, by omega, by simp; omega, ?_⟩, [(7, some 50)], by dsimp only; omega, rfl, ?_, ?_⟩
        · rw [hv, rset_step put (by omega), if_neg hx, if_neg hne, hy]; simp
        · repeat' (first | exact trivial | exact rfl | exact leF_ptr rfl | exact leF_int rfl | exact leF_bool rfl | exact leF_cl (cl_slB _ _) | exact leF_cl (cl_slR _ _) | exact leF_c (leC_os rfl rfl) | refine leF_int ?_ | refine leF_bool ?_ | exact leN_varA (fun _ _ => (Elem.flat _ _ _).le) | exact leN_varA (fun _ _ => leC_top) | apply And.intro)
          · exact leF_c (leC_os rfl (by simp))
          · (dsimp only; rw [IntWalk.i64_in _ (by omega)]; omega)
        · repeat' (first | exact trivial | exact rfl | exact leF_ptr rfl | exact leF_int rfl | exact leF_bool rfl | exact leF_cl (cl_slB _ _) | exact leF_cl (cl_slR _ _) | exact leF_c (leC_os rfl rfl) | refine leF_int ?_ | refine leF_bool ?_ | exact leN_varA (fun _ _ => (Elem.flat _ _ _).le) | exact leN_varA (fun _ _ => leC_top) | apply And.intro)
          (change LeN _ _ _; refine leN_snoc (E := eCtx) (L := out) (x := l.getD i default) rfl (fun i hi j hj => selC_in (Nat.ble_eq_true_of_le hi) (Elem.flat _ _ _).le) ?_; repeat' (first | exact trivial | (refine selC_out (blt_self _) ?_; rw [Nat.sub_self]; first | exact leC_int rfl | exact leC_bool rfl | exact leC_bool (by assumption)) | apply And.intro))
      · have he : (l.getD i default).id = c.id := hc
        have hp : put = true := by assumption
        have hx : ¬ (put = false ∧ c.id ≤ (l.getD i default).id) := fun h => by rw [hp] at h; cases h.1
        have hy : (put || decide (c.id ≤ (l.getD i default).id)) = put := by rw [hp, Bool.true_or]
        refine ⟨⟨i + 1, out, put, by omega, by omega, ?_⟩, [], by dsimp only; omega, rfl, ?_, ?_⟩
        · rw [hv, rset_step put (by omega), if_neg hx, if_pos he, hy]; simp
        · repeat' (first | exact trivial | exact rfl | exact leF_ptr rfl | exact leF_int rfl | exact leF_bool rfl | exact leF_cl (cl_slB _ _) | exact leF_cl (cl_slR _ _) | exact leF_c (leC_os rfl rfl) | refine leF_int ?_ | refine leF_bool ?_ | exact leN_varA (fun _ _ => (Elem.flat _ _ _).le) | exact leN_varA (fun _ _ => leC_top) | apply And.intro)
          (dsimp only; rw [IntWalk.i64_in _ (by omega)]; omega)
        · repeat' (first | exact trivial | exact rfl | exact leF_ptr rfl | exact leF_int rfl | exact leF_bool rfl | exact leF_cl (cl_slB _ _) | exact leF_cl (cl_slR _ _) | exact leF_c (leC_os rfl rfl) | refine leF_int ?_ | refine leF_bool ?_ | exact leN_varA (fun _ _ => (Elem.flat _ _ _).le) | exact leN_varA (fun _ _ => leC_top) | apply And.intro)
          exact leN_ents
      · have hil : i = l.length := by omega
        have e : rset c false l = out ++ [c] := by rw [hv, hil, List.drop_length, show put = false by assumption]; rfl
        rw [e]
        refine Done.mk (leF_tup ⟨leC_fin (t := 41) rfl rfl (by simp) ?_, leC_int rfl, trivial⟩)
        (change LeN _ _ _; refine leN_snoc (E := eCtx) (L := out) (x := c) rfl (fun i hi j hj => selC_in (Nat.ble_eq_true_of_le hi) (Elem.flat _ _ _).le) ?_; repeat' (first | exact trivial | (refine selC_out (blt_self _) ?_; rw [Nat.sub_self]; first | exact leC_int rfl | exact leC_bool rfl | exact leC_bool (by assumption)) | apply And.intro))
      · have hil : i = l.length := by omega
        have e : rset c false l = out := by rw [hv, hil, List.drop_length, show put = true by assumption]; simp [rset]
        rw [e]
        exact Done.mk (leF_tup ⟨leC_row_fin rfl rfl, leC_int rfl, trivial⟩)
    · refine ⟨rfl, ?_, ?_⟩
      · repeat' (first | exact trivial | exact rfl | exact leF_ptr rfl | exact leF_int rfl | exact leF_bool rfl | exact leF_cl (cl_slB _ _) | exact leF_cl (cl_slR _ _) | exact leF_c (leC_os rfl rfl) | refine leF_int ?_ | refine leF_bool ?_ | exact leN_varA (fun _ _ => (Elem.flat _ _ _).le) | exact leN_varA (fun _ _ => leC_top) | apply And.intro)
        exact leF_c (leC_nils_os rfl)
      · repeat' (first | exact trivial | exact rfl | exact leF_ptr rfl | exact leF_int rfl | exact leF_bool rfl | exact leF_cl (cl_slB _ _) | exact leF_cl (cl_slR _ _) | exact leF_c (leC_os rfl rfl) | refine leF_int ?_ | refine leF_bool ?_ | exact leN_varA (fun _ _ => (Elem.flat _ _ _).le) | exact leN_varA (fun _ _ => leC_top) | apply And.intro)
        exact eCtx_sz
end Go.Proofs.Ytcnfjifokeancaa.AX
