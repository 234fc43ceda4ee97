/- Package contexts: Expire and Set (by AX2). -/
import Derived.Test.YtcnfjifokeancaaCt3
namespace Go.Proofs.Ytcnfjifokeancaa.AX
set_option linter.unusedVariables false
set_option linter.unusedSimpArgs false
def encLE (r : List Ctx × Int) : FV := .tup [.c (slR eCtx r.1), .c (.int .i64 r.2)]
def keepF (now : Int) : List Ctx → List Ctx
  | [] => []
  | c :: l => if decom c now = true then { c with comp := compr c now } :: keepF now l else keepF now l
def expF (l : List Ctx) (now : Int) : List Ctx × Int := if validT l = true then (if vt now = true then (keepF now l, 0) else ([], 2)) else ([], 1)
theorem blt_self (n : Nat) : Nat.blt n n = false := by
  cases hb : Nat.blt n n with
  | false => rfl
  | true => have := Nat.le_of_ble_eq_true hb; omega
theorem leN_snoc {c : Wc} {t : TypeId} {α : Type} [Inhabited α] {E : Elem α} {L : List α} {x : α} {n : Nat} {f : Nat → Nat → CV} (hn : n = L.length + 1) (h1 : ∀ i, i < L.length → ∀ j, j < E.sz → LeC c (f i j) (rowF E L i j)) (h2 : allLt E.sz fun j => LeC c (f L.length j) (E.cell x j)) :
    LeN c ⟨t, n, E.sz, false, f⟩ (ents E t (L ++ [x])) := by
  refine ⟨rfl, by simp [ents, hn], rfl, rfl, fun i hi j hj => ?_⟩
  have hi' : i < n := hi
  show LeC c (f i j) (E.cell ((L ++ [x]).getD i default) j)
  by_cases h : i < L.length
  · have : (L ++ [x]).getD i default = L.getD i default := by
      simp [List.getD_eq_getElem?_getD, List.getElem?_append_left h]
    rw [this]
    exact h1 i h j hj
  · have hi2 : i = L.length := by omega
    subst hi2
    have : (L ++ [x]).getD L.length default = x := by simp [List.getD_eq_getElem?_getD]
    rw [this]
    exact allLt_at h2 j hj
theorem keep_step {l : List Ctx} {i : Nat} (now : Int) (h : i < l.length) : keepF now (l.drop i) = (if decom (l.getD i default) now = true then [{ (l.getD i default) with comp := compr (l.getD i default) now }] else []) ++ keepF now (l.drop (i + 1)) := by
  rw [drop_at h, keepF]
  split <;> rfl
theorem leC_row_fin {c : Wc} {k : Nat} {t : TypeId} {α : Type} [Inhabited α] {E : Elem α} {L : List α} (he : hget c.H k = some (ents E t L)) (hd : c.dead k = true) : LeC c (.os k 0 L.length) (slR E L) :=
  leC_os_sl he hd rfl rfl (by simp [ents]) fun q _ j _ => by rw [Nat.zero_add]; exact (E.flat _ _).le
theorem leN_ents {c : Wc} {t : TypeId} {α : Type} [Inhabited α] {E : Elem α} {L : List α} : LeN c (ents E t L) (ents E t L) := leN_row rfl fun _ _ _ _ => (E.flat _ _).le
structure ExpS (l : List Ctx) (now : Int) where
  i : Nat
  K : List Ctx
  hi : i ≤ l.length
  hl : K.length ≤ i
  hv : keepF now l = K ++ keepF now (l.drop i)
set_option maxRecDepth 10000 in
theorem expire_ok (l : List Ctx) (now : Int) (hl : l.length ≤ 2932031007317) : PureOk Try.prog 39 [(cSl eCtx eCtx_sz).enc l, (cI .i64).enc now] (encLE (expF l now)) := by
  refine pure_intro (wd := 1) (Q := mkQ LE3) (by decide) tysOk (q_of LE3_ok) mixed Try.func39 rfl _ (by show 2 ≤ _; decide) _ ?_
  repeat' (first | (apply And.intro <;> intro hc <;> (first | exact Bool.noConfusion hc | (simp only [decide_eq_true_eq, decide_eq_false_iff_not, Bool.not_eq_true', Bool.not_eq_false', beq_iff_eq, beq_eq_false_iff_ne, bne_iff_ne, bne_eq_false_iff_eq, Bool.true_eq_false, Bool.false_eq_true] at hc) | skip)) | (refine And.intro (by first | exact trivial | decide | omega | (dsimp only; omega) | exact fun _ _ => rfl) ?_) | (apply And.intro) | (intro s hs))
  · show (toL eCtx l.length (rowF eCtx l)).length ≤ _
    rw [toL_ctx]; omega
  · have hs' : s = validT l := by rw [hs, toL_ctx]
    have hf : s = false := by assumption
    have e : expF l now = ([], 1) := by simp [expF, ← hs', hf]
    rw [e]
    exact Done.mk (leF_tup ⟨leC_nils_sl rfl, leC_int rfl, trivial⟩)
  · rename_i s1 hs1 hc1
    have hs1' : s1 = validT l := by rw [hs1, toL_ctx]
    have hs' : s = vt now := hs
    have e : expF l now = ([], 2) := by simp [expF, ← hs', ← hs1', hc, hc1]
    rw [e]
    exact Done.mk (leF_tup ⟨leC_nils_sl rfl, leC_int rfl, trivial⟩)
  · rename_i s1 hs1 hc1
    have hs1' : s1 = validT l := by rw [hs1, toL_ctx]
    have hs' : s = vt now := hs
    have e : expF l now = (keepF now l, 0) := by simp [expF, ← hs', ← hs1', hc, hc1]
    rw [e]
    clear hs hs1 hs' hs1' hc hc1 e
    refine loop_intro (mono_of LE3_ok) (fun s : ExpS l now => (⟨[(1, one (.int .i64 now)), (6, one (.os 7 0 s.K.length)), (15, one (.sl false l.length eCtx.sz (rowF eCtx l))), (16, one (.int .i64 (l.length : Int))), (17, one (.int .i64 (s.i : Int)))],
      [(7, some (ents eCtx 41 s.K))], 20⟩ : Hd)) (fun s => l.length - s.i) (fun _ => rfl) ?_ ⟨0, [], by omega, by simp, rfl⟩ [(7, none)] ?_
    · rintro ⟨i, K, hi, hK, hv⟩
      dsimp only at hi hv ⊢
      repeat' (first | (apply And.intro <;> intro hc <;> (first | exact Bool.noConfusion hc | (simp only [decide_eq_true_eq, decide_eq_false_iff_not, Bool.not_eq_true', Bool.not_eq_false', beq_iff_eq, beq_eq_false_iff_ne, bne_iff_ne, bne_eq_false_iff_eq, Bool.true_eq_false, Bool.false_eq_true] at hc) | skip)) | (refine And.intro (by first | exact trivial | decide | omega | (dsimp only; omega) | exact fun _ _ => rfl) ?_) | (apply And.intro) | (intro s hs))
      · rename_i s0 h0
        have hd : s0 = decom (l.getD i default) now := by
          refine h0.trans ?_
          show decom (eCtx.rd fun q => eCtx.cell (l.getD i default) (0 + q)) now = _
          rw [rd_ctx]
        have hcm : s = compr (l.getD i default) now := by
          refine hs.trans ?_
          show compr (eCtx.rd fun q => eCtx.cell (l.getD i default) (0 + q)) now = _
          rw [rd_ctx]
        have hdt : decom (l.getD i default) now = true := by rw [← hd]; assumption
        refine ⟨⟨i + 1, K ++ [{ (l.getD i default) with comp := compr (l.getD i default) now }], by omega, by simp; omega, ?_⟩, [(7, some 36)], by dsimp only; omega, rfl, ?_, ?_⟩
        · rw [hv, keep_step now (by omega), if_pos hdt, List.append_assoc]
        · repeat' (first | exact trivial | exact rfl | exact leF_ptr rfl | exact leF_int rfl | exact leF_bool rfl | exact leF_cl (cl_slB _ _) | exact leF_cl (cl_slR _ _) | exact leF_c (leC_os rfl rfl) | refine leF_int ?_ | refine leF_bool ?_ | exact leN_varA (fun _ _ => (Elem.flat _ _ _).le) | exact leN_varA (fun _ _ => leC_top) | apply And.intro)
          · exact leF_c (leC_os rfl (by simp))
          · refine (IntWalk.i64_in _ ?_).trans ?_
            · constructor <;> omega
            · dsimp only
              omega
        · repeat' (first | exact trivial | exact rfl | exact leF_ptr rfl | exact leF_int rfl | exact leF_bool rfl | exact leF_cl (cl_slB _ _) | exact leF_cl (cl_slR _ _) | exact leF_c (leC_os rfl rfl) | refine leF_int ?_ | refine leF_bool ?_ | exact leN_varA (fun _ _ => (Elem.flat _ _ _).le) | exact leN_varA (fun _ _ => leC_top) | apply And.intro)
          (change LeN _ _ _; refine leN_snoc (E := eCtx) (L := K) (x := { (l.getD i default) with comp := compr (l.getD i default) now }) rfl (fun i hi j hj => selC_in (Nat.ble_eq_true_of_le hi) (Elem.flat _ _ _).le) ?_; repeat' (first | exact trivial | (refine selC_out (blt_self _) ?_; rw [Nat.sub_self]; first | exact leC_int rfl | exact leC_bool rfl | exact leC_bool (by assumption)) | apply And.intro))
      · have hd : s = decom (l.getD i default) now := by
          refine hs.trans ?_
          show decom (eCtx.rd fun q => eCtx.cell (l.getD i default) (0 + q)) now = _
          rw [rd_ctx]
        have hdt : ¬ decom (l.getD i default) now = true := by rw [← hd, hc]; decide
        refine ⟨⟨i + 1, K, by omega, by omega, ?_⟩, [], by dsimp only; omega, rfl, ?_, ?_⟩
        · rw [hv, keep_step now (by omega), if_neg hdt, List.nil_append]
        · repeat' (first | exact trivial | exact rfl | exact leF_ptr rfl | exact leF_int rfl | exact leF_bool rfl | exact leF_cl (cl_slB _ _) | exact leF_cl (cl_slR _ _) | exact leF_c (leC_os rfl rfl) | refine leF_int ?_ | refine leF_bool ?_ | exact leN_varA (fun _ _ => (Elem.flat _ _ _).le) | exact leN_varA (fun _ _ => leC_top) | apply And.intro)
          refine (IntWalk.i64_in _ ?_).trans ?_
          · constructor <;> omega
          · dsimp only
            omega
        · repeat' (first | exact trivial | exact rfl | exact leF_ptr rfl | exact leF_int rfl | exact leF_bool rfl | exact leF_cl (cl_slB _ _) | exact leF_cl (cl_slR _ _) | exact leF_c (leC_os rfl rfl) | refine leF_int ?_ | refine leF_bool ?_ | exact leN_varA (fun _ _ => (Elem.flat _ _ _).le) | exact leN_varA (fun _ _ => leC_top) | apply And.intro)
          exact leN_ents
      · have hil : i = l.length := by omega
        have e : keepF now l = K := by rw [hv, hil, List.drop_length, keepF, List.append_nil]
        rw [e]
        exact Done.mk (leF_tup ⟨leC_row_fin rfl rfl, leC_int rfl, trivial⟩)
    · refine ⟨rfl, ?_, ?_⟩
      · repeat' (first | exact trivial | exact rfl | exact leF_ptr rfl | exact leF_int rfl | exact leF_bool rfl | exact leF_cl (cl_slB _ _) | exact leF_cl (cl_slR _ _) | exact leF_c (leC_os rfl rfl) | refine leF_int ?_ | refine leF_bool ?_ | exact leN_varA (fun _ _ => (Elem.flat _ _ _).le) | exact leN_varA (fun _ _ => leC_top) | apply And.intro)
        exact leF_c (leC_nils_os rfl)
      · repeat' (first | exact trivial | exact rfl | exact leF_ptr rfl | exact leF_int rfl | exact leF_bool rfl | exact leF_cl (cl_slB _ _) | exact leF_cl (cl_slR _ _) | exact leF_c (leC_os rfl rfl) | refine leF_int ?_ | refine leF_bool ?_ | exact leN_varA (fun _ _ => (Elem.flat _ _ _).le) | exact leN_varA (fun _ _ => leC_top) | apply And.intro)
        exact eCtx_sz
end Go.Proofs.Ytcnfjifokeancaa.AX
