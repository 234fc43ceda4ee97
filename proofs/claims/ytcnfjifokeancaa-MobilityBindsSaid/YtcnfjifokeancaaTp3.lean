/- What the makers draw from a tape: addresses and tables of contexts. -/
import Derived.Test.YtcnfjifokeancaaTp2
import Derived.Test.YtcnfjifokeancaaCt4
namespace Go.Proofs.Ytcnfjifokeancaa.AX
open Go.RowKit
set_option linter.unusedVariables false
set_option linter.unusedSimpArgs false
set_option maxRecDepth 10000 in
theorem ip_ok (n : Nat) (l : List Int) (q : Int) (a : Adr) (ht : TapeOk n (rI l) q) :
    ∃ (r : Fin 16 → Int) (q' : Int), byteOk r ∧ TapeOk n (rI l) q' ∧ MethOk Try.prog 15 [(cE eAdr).enc a] (tapeN n (rI l) q) ((cE (eA .u8 16)).enc r) (tapeN n (rI l) q') := by
  refine tape_intro (wd := 1) (Q := mkQ LT2) (by decide) tysOk (q_of LT2_ok) mixed Try.func15 rfl _ (by show 1 + 1 ≤ _; decide) (nff_elem (eA .u8 16)) ?_
  repeat' (first | (apply And.intro <;> intro hc <;> (first | exact Bool.noConfusion hc | (simp only [decide_eq_true_eq, decide_eq_false_iff_not, Bool.not_eq_true', Bool.not_eq_false', beq_iff_eq, beq_eq_false_iff_ne, bne_iff_ne, bne_eq_false_iff_eq, Bool.true_eq_false, Bool.false_eq_true] at hc) | skip)) | (refine And.intro (by first | exact trivial | decide | omega | (dsimp only; omega) | exact fun _ _ => rfl | exact ⟨by assumption, by first | exact trivial | decide | omega | (dsimp only; omega)⟩) ?_) | (apply And.intro) | (intro s hs))
  all_goals first
    | exact ⟨(s, _), ⟨by rw [hs]; exact of_byteOk _ _, by assumption⟩, ⟨leF_e (leE_all (by repeat' (first | exact trivial | exact rfl | exact leC_int rfl | exact leC_bool rfl | refine leE_all ?_ | exact leC_bool (by assumption) | apply And.intro))), tapeN_le⟩⟩
    | (rename_i r hr; exact ⟨(r, _), ⟨hr, by assumption⟩, ⟨leF_e (leE_all (by repeat' (first | exact trivial | exact rfl | exact leC_int rfl | exact leC_bool rfl | refine leE_all ?_ | exact leC_bool (by assumption) | apply And.intro))), tapeN_le⟩⟩)
    | exact ⟨(fun _ => 0, _), ⟨⟨fun q => show (0 : Int) ≤ 0 ∧ (0 : Int) < 256 from ⟨by decide, by decide⟩⟩, by assumption⟩, ⟨leF_e (leE_all (by repeat' (first | exact trivial | exact rfl | exact leC_int rfl | exact leC_bool rfl | refine leE_all ?_ | exact leC_bool (by assumption) | apply And.intro))), tapeN_le⟩⟩
theorem valid_snoc {x : Ctx} (h1 : vpf (pfxOf x) = true) (h2 : vt x.til = true) (h3 : x.id < 16) : ∀ (L : List Ctx) (b : Int), validFrom b L = true → (∀ c ∈ L, c.id < x.id) → b < x.id → validFrom b (L ++ [x]) = true := by
  intro L
  induction L with
  | nil => intro b _ _ hb; simp [validFrom, h1, h2, h3, hb]
  | cons c L ih =>
    intro b hv hid hb
    simp only [List.cons_append, validFrom, Bool.and_eq_true] at hv ⊢
    exact ⟨hv.1, ih c.id hv.2 (fun d hd => hid d (List.mem_cons_of_mem _ hd)) (hid c (List.mem_cons_self ..))⟩
structure madeL (L : List Ctx) : Prop where
  v : validT L = true
  n : L.length ≤ 16
  b : ∀ c ∈ L, byteOk c.ip
structure CtxS (n : Nat) (l : List Int) where
  i : Nat
  L : List Ctx
  q : Int
  hi : i ≤ 16
  hv : validT L = true
  hid : ∀ c ∈ L, c.id < i
  hn : L.length ≤ i
  hb : ∀ c ∈ L, byteOk c.ip
  ht : TapeOk n (rI l) q
theorem nff_slR {L : List Ctx} : NFF (.e (.c (slR eCtx L))) := nff_c (nf_sl fun i _ j _ => (eCtx.flat _ _).nf)
set_option maxRecDepth 10000 in
theorem contexts_ok (n : Nat) (l : List Int) (q : Int) (ht : TapeOk n (rI l) q) :
    ∃ (r : List Ctx) (q' : Int), madeL r ∧ TapeOk n (rI l) q' ∧ MethOk Try.prog 14 [] (tapeN n (rI l) q) (.e (.c (slR eCtx r))) (tapeN n (rI l) q') := by
  refine tape_intro (enc := fun r => .e (.c (slR eCtx r))) (wd := 1) (Q := mkQ LT2) (by decide) tysOk (q_of LT2_ok) mixed Try.func14 rfl _ (by show 0 + 1 ≤ _; decide) (fun _ => nff_slR) ?_
  refine loop_intro (mono_of LT2_ok) (fun s : CtxS n l => (⟨[(0, one (.ptr 0 0 0 false)), (3, one (.os 7 0 s.L.length)), (4, one (.int .i64 (s.i : Int)))],
    [(0, some (tapeN n (rI l) s.q)), (7, some (ents eCtx 41 s.L))], 8⟩ : Hd)) (fun s => 16 - s.i) (fun _ => rfl) ?_ ⟨0, [], q, by omega, rfl, by simp, by simp, by simp, ht⟩ [(7, none)] ?_
  · rintro ⟨i, L, q1, hi, hv, hid, hn, hb, ht1⟩
    dsimp only at hi hv hid hn hb ⊢
    repeat' (first | (apply And.intro <;> intro hc <;> (first | exact Bool.noConfusion hc | (simp only [decide_eq_true_eq, decide_eq_false_iff_not, Bool.not_eq_true', Bool.not_eq_false', beq_iff_eq, beq_eq_false_iff_ne, bne_iff_ne, bne_eq_false_iff_eq, Bool.true_eq_false, Bool.false_eq_true] at hc) | skip)) | (refine And.intro (by first | exact trivial | decide | omega | (dsimp only; omega) | exact fun _ _ => rfl | exact ⟨by assumption, by first | exact trivial | decide | omega | (dsimp only; omega)⟩) ?_) | (apply And.intro) | (intro s hs))
    · rename_i sb hsb sq1 hsq1 p hp sq2 hsq2 v hv' sq3 hsq3 u hu
      have hu' : 0 ≤ u ∧ u < 50 := hu
      refine ⟨⟨i + 1, L ++ [⟨i, p.ip, p.bits, decide (0 < v), u⟩], _, by omega, ?_, ?_, by simp; omega, ?_, hs⟩, [(7, some 23)], by dsimp only; omega, rfl, ?_, ?_⟩
      · refine valid_snoc ?_ ?_ ?_ L (-1) hv hid ?_
        · exact hp.1
        · simp [vt]; omega
        · show (i : Int) < 16; omega
        · show (-1 : Int) < i; omega
      · intro c hc
        rcases List.mem_append.1 hc with h | h
        · have := hid c h; omega
        · rw [List.mem_singleton.1 h]; show (i : Int) < ((i + 1 : Nat) : Int); omega
      · intro c hc
        rcases List.mem_append.1 hc with h | h
        · exact hb c h
        · rw [List.mem_singleton.1 h]; exact hp.2
      · repeat' (first | exact trivial | exact rfl | exact leF_ptr rfl | exact leF_int rfl | exact leF_bool rfl | exact leF_cl (cl_slB _ _) | exact leF_cl (cl_slR _ _) | exact leF_c (leC_os rfl rfl) | refine leF_int ?_ | refine leF_bool ?_ | exact leN_varA (fun _ _ => (Elem.flat _ _ _).le) | exact leN_varA (fun _ _ => leC_top) | apply And.intro)
        · exact leF_c (leC_os rfl (by simp))
        · refine (IntWalk.i64_in _ ?_).trans ?_
          · constructor <;> omega
          · dsimp only
            omega
      · repeat' (first | exact trivial | exact rfl | exact leF_ptr rfl | exact leF_int rfl | exact leF_bool rfl | exact leF_cl (cl_slB _ _) | exact leF_cl (cl_slR _ _) | exact leF_c (leC_os rfl rfl) | refine leF_int ?_ | refine leF_bool ?_ | exact leN_varA (fun _ _ => (Elem.flat _ _ _).le) | exact leN_varA (fun _ _ => leC_top) | apply And.intro)
        · exact tapeN_le
        · (change LeN _ _ _; refine leN_snoc (E := eCtx) (L := L) (x := ⟨i, p.ip, p.bits, decide (0 < v), u⟩) rfl (fun i hi j hj => selC_in (Nat.ble_eq_true_of_le hi) (Elem.flat _ _ _).le) ?_; repeat' (first | exact trivial | (refine selC_out (blt_self _) ?_; rw [Nat.sub_self]; first | exact leC_int rfl | exact leC_bool rfl | exact leC_bool (by assumption)) | apply And.intro))
    · refine ⟨⟨i + 1, L, _, by omega, hv, fun c hc => by have := hid c hc; omega, by omega, hb, hs⟩, [], by dsimp only; omega, rfl, ?_, ?_⟩
      · repeat' (first | exact trivial | exact rfl | exact leF_ptr rfl | exact leF_int rfl | exact leF_bool rfl | exact leF_cl (cl_slB _ _) | exact leF_cl (cl_slR _ _) | exact leF_c (leC_os rfl rfl) | refine leF_int ?_ | refine leF_bool ?_ | exact leN_varA (fun _ _ => (Elem.flat _ _ _).le) | exact leN_varA (fun _ _ => leC_top) | apply And.intro)
        refine (IntWalk.i64_in _ ?_).trans ?_
        · constructor <;> omega
        · dsimp only
          omega
      · repeat' (first | exact trivial | exact rfl | exact leF_ptr rfl | exact leF_int rfl | exact leF_bool rfl | exact leF_cl (cl_slB _ _) | exact leF_cl (cl_slR _ _) | exact leF_c (leC_os rfl rfl) | refine leF_int ?_ | refine leF_bool ?_ | exact leN_varA (fun _ _ => (Elem.flat _ _ _).le) | exact leN_varA (fun _ _ => leC_top) | apply And.intro)
        · exact tapeN_le
        · exact leN_ents
    · exact ⟨(L, q1), ⟨⟨hv, (show L.length ≤ 16 by omega), hb⟩, ht1⟩, ⟨leF_c (leC_row_fin rfl rfl), tapeN_le⟩⟩
  · refine ⟨rfl, ?_, ?_⟩
    · repeat' (first | exact trivial | exact rfl | exact leF_ptr rfl | exact leF_int rfl | exact leF_bool rfl | exact leF_cl (cl_slB _ _) | exact leF_cl (cl_slR _ _) | exact leF_c (leC_os rfl rfl) | refine leF_int ?_ | refine leF_bool ?_ | exact leN_varA (fun _ _ => (Elem.flat _ _ _).le) | exact leN_varA (fun _ _ => leC_top) | apply And.intro)
      exact leF_c (leC_nils_os rfl)
    · repeat' (first | exact trivial | exact rfl | exact leF_ptr rfl | exact leF_int rfl | exact leF_bool rfl | exact leF_cl (cl_slB _ _) | exact leF_cl (cl_slR _ _) | exact leF_c (leC_os rfl rfl) | refine leF_int ?_ | refine leF_bool ?_ | exact leN_varA (fun _ _ => (Elem.flat _ _ _).le) | exact leN_varA (fun _ _ => leC_top) | apply And.intro)
      · exact tapeN_le
      · exact eCtx_sz
end Go.Proofs.Ytcnfjifokeancaa.AX
