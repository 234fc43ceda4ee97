/- MobilityNewest, by AX2: the law returns true. -/
import Derived.Test.YtcnfjifokeancaaMbK
namespace Go.Proofs.Ytcnfjifokeancaa.AX
open Go.RowKit
set_option linter.unusedVariables false
set_option linter.unusedSimpArgs false
def LMk : CsL := (25, some (pureE AC.nil (fun _ => True) (fun _ => true) cB.enc)) :: LM3
theorem LMk_ok : AllOk Try.prog LMk := ⟨pureE_ok ⟨_, Try.func25, rfl, by kernel_rfl⟩ fun a _ => known36_ok, LM3_ok⟩
def NwI (L : List Bd) (nw : Int) (pl : Fin 16 → Int) : Prop := (L = [] ∧ nw = -1) ∨ ∃ t, L = [⟨ip1 9, pl, nw, t⟩] ∧ 60 ≤ t ∧ t ≤ 75 ∧ 0 ≤ nw ∧ nw < 30 ∧ byteOk pl ∧ ipEq pl (ip1 9) = false
theorem ne9 {r : Fin 16 → Int} (h : vget r 2 = 13 ∨ vget r 3 = 184) : ipEq r (ip1 9) = false := by
  rw [Bool.eq_false_iff]
  intro e
  rw [ipEq_iff.1 e] at h
  exact absurd h (by decide)
theorem bd1 {pl : Fin 16 → Int} {nw t : Int} (h1 : 60 ≤ t) (h2 : t ≤ 75) (h3 : 0 ≤ nw) (h4 : nw < 30) (h5 : ipEq pl (ip1 9) = false) : bvalid [⟨ip1 9, pl, nw, t⟩] = true := by
  have e1 : sqOk nw = true := by simp [sqOk]; omega
  have e2 : vt t = true := by simp [vt]; omega
  simp [bvalid, bvF, bdOk, ordOk, h5, e1, e2]
theorem nw_bd {L : List Bd} {nw : Int} {pl : Fin 16 → Int} (h : NwI L nw pl) : bdL L ∧ bvalid L = true := by
  rcases h with ⟨rfl, rfl⟩ | ⟨t, rfl, h1, h2, h3, h4, h5, h6⟩
  · exact ⟨⟨fun b hb => (by cases hb), by simp⟩, rfl⟩
  · exact ⟨⟨fun b hb => by rw [List.mem_singleton.1 hb]; exact ⟨ip1_ok (by omega), h5⟩, by simp⟩, bd1 h1 h2 h3 h4 h6⟩
theorem nw_bind {L : List Bd} {nw : Int} {pl r : Fin 16 → Int} {i : Nat} {s : Int} (h : NwI L nw pl) (hi : i < 15) (hs : 0 ≤ s ∧ s < 30) (hr : vget r 2 = 13 ∨ vget r 3 = 184) :
    bindF L i ⟨ip1 9, r, s, 0⟩ 60 = if nw < s then ([⟨ip1 9, r, s, i + 60⟩], 0) else ([], 16) := by
  have e1 : sqOk s = true := by simp [sqOk]; omega
  have e2 : vt (i : Int) = true := by simp [vt]; omega
  have e3 : minT (i : Int) 60 = i + 60 := by unfold minT; rw [if_neg (by omega)]
  have e4 : ipEq (ip1 9) (ip1 9) = true := ipEq_iff.2 rfl
  rw [bindF, if_pos ⟨(nw_bd h).2, ne9 hr⟩, if_pos ⟨e2, e1, by omega, by omega⟩, e3]
  rcases h with ⟨rfl, rfl⟩ | ⟨t, rfl, h1, h2, h3, h4, h5, h6⟩
  · rw [if_pos (by omega)]; rfl
  · simp only [bindL, e4, if_true]
    by_cases hn : s ≤ nw
    · rw [if_pos hn, if_neg (by omega)]; rfl
    · rw [if_neg hn, if_pos (by omega)]; rfl
theorem nw_place {nw t : Int} {pl : Fin 16 → Int} {i : Nat} (h1 : 60 ≤ t) (h2 : t ≤ 75) (h3 : 0 ≤ nw) (h4 : nw < 30) (h5 : ipEq pl (ip1 9) = false) (hi : i < 15) : placeF [⟨ip1 9, pl, nw, t⟩] i (ip1 9) = (pl, true) := by
  have e2 : vt (i : Int) = true := by simp [vt]; omega
  have e4 : ipEq (ip1 9) (ip1 9) = true := ipEq_iff.2 rfl
  rw [placeF, if_pos ⟨bd1 h1 h2 h3 h4 h5, e2⟩, findP, if_pos ⟨e4, by show (i : Int) < t; omega⟩]
theorem nw_place' {L : List Bd} {nw : Int} {pl : Fin 16 → Int} {i : Nat} (h : NwI L nw pl) (hn : 0 ≤ nw) (hi : i < 15) : placeF L i (ip1 9) = (pl, true) := by
  rcases h with ⟨rfl, rfl⟩ | ⟨t, rfl, h1, h2, h3, h4, h5, h6⟩
  · omega
  · exact nw_place h1 h2 h3 h4 h6 hi
theorem nw_new {r : Fin 16 → Int} {s : Int} {i : Nat} (hr : byteOk r ∧ (vget r 2 = 13 ∨ vget r 3 = 184)) (hs : 0 ≤ s ∧ s < 30) (hi : i < 15) : NwI [⟨ip1 9, r, s, i + 60⟩] s r :=
  .inr ⟨i + 60, rfl, by omega, by omega, by omega, by omega, hr.1, ne9 hr.2⟩
theorem nbind_eq {l L : List Bd} {g : Nat → CV} {r : Fin 16 → Int} {i s : Int} (h0 : l = L) (h1 : allLt 16 fun q => g (0 + q) = .int .u8 (vget (ip1 9) q)) (h2 : allLt 16 fun q => g (16 + q) = .int .u8 (vget r q)) (h3 : g 32 = .int .i64 s) (h4 : g 33 = .int .i64 0) : bindF l i (eBd.rd g) 60 = bindF L i ⟨ip1 9, r, s, 0⟩ 60 :=
  bind_congr h0 (bd_rd (allLt_at h1) (allLt_at h2) h3 h4)
structure NwS (m : Nat) (l : List Int) where
  i : Nat
  L : List Bd
  nw : Int
  pl : Fin 16 → Int
  q : Int
  hi : i ≤ 15
  ht : TapeOk m (rI l) q
  h : NwI L nw pl
set_option maxHeartbeats 4000000 in
set_option maxRecDepth 20000 in
theorem newest_ok (n : Nat) (l : List Int) (hl : rngL l) : PureOk Try.prog 4 [.e (.c (.sl true n 1 (rI l)))] (.e (.c (.bool true))) := by
  refine pure_intro (wd := 1) (Q := mkQ LMk) (by decide) tysOk (q_of LMk_ok) mixed Try.func4 rfl _ (by show 1 ≤ _; decide) _ ?_
  repeat' (first | (apply And.intro <;> intro hc <;> (first | exact Bool.noConfusion hc | (simp only [decide_eq_true_eq, decide_eq_false_iff_not, Bool.not_eq_true', Bool.not_eq_false', beq_iff_eq, beq_eq_false_iff_ne, bne_iff_ne, bne_eq_false_iff_eq, Bool.true_eq_false, Bool.false_eq_true] at hc) | skip)) | (refine And.intro (by first | exact trivial | decide | omega | (dsimp only; omega) | exact fun _ _ => rfl | exact ⟨by assumption, by first | exact trivial | decide | omega | (dsimp only; omega)⟩) ?_) | (apply And.intro) | (intro s hs))
  · exact ⟨l, rfl, hl⟩
  intro ht0
  obtain ⟨m, em⟩ : ∃ m, m = s := ⟨s, rfl⟩
  obtain ⟨q0, eq0⟩ : ∃ q0, q0 = hs := ⟨hs, rfl⟩
  subst em eq0
  refine loop_intro (mono_of LMk_ok) (fun s : NwS m l => (⟨[(3, one (.ptr 2 0 0 false)), (4, one (.sl true s.L.length eBd.sz (rowF eBd s.L))), (5, one (.int .i64 s.nw)), (6, one (.ptr 6 0 0 false)), (7, one (.int .i64 (s.i : Int)))],
    [(2, some (tapeN m (rI l) s.q)), (6, some ⟨28, 1, 16, true, fun _ => (eA .u8 16).cell s.pl⟩)], 8⟩ : Hd)) (fun s => 15 - s.i) (fun _ => rfl) ?_ ⟨0, [], -1, ip0, q0, by omega, ht0, .inl ⟨rfl, rfl⟩⟩ [] ?_
  · rintro ⟨i, L, nw, pl, q, hi, ht, hI⟩
    dsimp only at hi ⊢
    repeat' (first | (apply And.intro <;> intro hc <;> (first | exact Bool.noConfusion hc | (simp only [decide_eq_true_eq, decide_eq_false_iff_not, Bool.not_eq_true', Bool.not_eq_false', beq_iff_eq, beq_eq_false_iff_ne, bne_iff_ne, bne_eq_false_iff_eq, Bool.true_eq_false, Bool.false_eq_true, ne_eq, not_true_eq_false] at hc <;> first | exact absurd rfl hc | skip) | skip)) | (refine And.intro (by first | exact trivial | decide | omega | (dsimp only; omega) | exact fun _ _ => rfl | exact ⟨by assumption, by first | exact trivial | decide | omega | (dsimp only; omega)⟩) ?_) | (apply And.intro) | (intro s hs; (try dsimp only at hs); (first | (rename Fin 16 → Int => r; have hs' := hs.trans (nbind_eq (r := r) (toL_bd _) (by repeat' (first | exact trivial | exact rfl | apply And.intro)) (by repeat' (first | exact trivial | exact rfl | apply And.intro)) rfl rfl); rename 0 ≤ _ ∧ _ < (30, ()).fst => hsq; rename byteOk _ ∧ _ => hr; rw [nw_bind hI (by omega) hsq hr.2] at hs'; clear hs; split at hs' <;> subst hs') | (have hs' := hs.trans (place_congr (toL_bd _) (ip_rd (a := ip1 9) (allLt_at (by repeat' (first | exact trivial | exact rfl | apply And.intro))))); clear hs; first | (rw [nw_place' (nw_new (by assumption) (by assumption) (by omega)) (by omega) (by omega)] at hs'; subst hs') | (rw [nw_place' hI (by omega) (by omega)] at hs'; subst hs')) | skip)))
    all_goals first
      | (dsimp only; rw [toL_bd]; exact (nw_bd hI).1)
      | (dsimp only; rw [toL_bd]; exact (nw_bd (nw_new hr hsq (by omega))).1)
      | (dsimp only; refine by_bd ?_
         repeat' (first | exact trivial | exact (show 0 ≤ (0 : Int) ∧ (0 : Int) < 256 by decide) | exact (show 0 ≤ (9 : Int) ∧ (9 : Int) < 256 by decide) | apply And.intro))
      | (show (-9223372036854775808 : Int) ≤ 60; decide)
      | (show (60 : Int) ≤ 9223372036854775807; decide)
      | (exfalso
         rename ¬ (_ == _) = decide _ => hx
         first
           | (rename nw < _ => hy
              exact hx (by rw [decide_eq_true hy]; rfl))
           | (rename ¬ nw < _ => hy
              exact hx (by rw [decide_eq_false hy]; rfl)))
      | (exfalso
         have h : ipEq r r = false := by assumption
         rw [ipEq_iff.2 rfl] at h; cases h)
      | (exfalso
         have h : ipEq pl pl = false := by assumption
         rw [ipEq_iff.2 rfl] at h; cases h)
      | (rename nw < _ => hy
         refine ⟨⟨i + 1, [⟨ip1 9, r, _, i + 60⟩], _, r, _, by omega, hs, nw_new hr hsq (by omega)⟩, [], by dsimp only; omega, rfl, ?_, ?_⟩
         · repeat' (first | exact trivial | exact rfl | exact leF_ptr rfl | exact leF_int rfl | exact leF_bool rfl | exact leF_cl (cl_slB _ _) | exact leF_cl (cl_slR _ _) | exact leF_c (leC_os rfl rfl) | refine leF_int ?_ | refine leF_bool ?_ | exact leN_varA (fun _ _ => (Elem.flat _ _ _).le) | exact leN_varA (fun _ _ => leC_top) | apply And.intro)
           (dsimp only; rw [IntWalk.i64_in _ (by omega)]; omega)
         · repeat' (first | exact trivial | exact rfl | exact leF_ptr rfl | exact leF_int rfl | exact leF_bool rfl | exact leF_cl (cl_slB _ _) | exact leF_cl (cl_slR _ _) | exact leF_c (leC_os rfl rfl) | refine leF_int ?_ | refine leF_bool ?_ | exact leN_varA (fun _ _ => (Elem.flat _ _ _).le) | exact leN_varA (fun _ _ => leC_top) | apply And.intro)
           · exact tapeN_le
           · refine leN_var ?_
             repeat' (first | exact trivial | exact leC_int rfl | apply And.intro))
      | (rename ¬ nw < _ => hy
         refine ⟨⟨i + 1, L, nw, pl, _, by omega, hs, hI⟩, [], by dsimp only; omega, rfl, ?_, ?_⟩
         · repeat' (first | exact trivial | exact rfl | exact leF_ptr rfl | exact leF_int rfl | exact leF_bool rfl | exact leF_cl (cl_slB _ _) | exact leF_cl (cl_slR _ _) | exact leF_c (leC_os rfl rfl) | refine leF_int ?_ | refine leF_bool ?_ | exact leN_varA (fun _ _ => (Elem.flat _ _ _).le) | exact leN_varA (fun _ _ => leC_top) | apply And.intro)
           (dsimp only; rw [IntWalk.i64_in _ (by omega)]; omega)
         · repeat' (first | exact trivial | exact rfl | exact leF_ptr rfl | exact leF_int rfl | exact leF_bool rfl | exact leF_cl (cl_slB _ _) | exact leF_cl (cl_slR _ _) | exact leF_c (leC_os rfl rfl) | refine leF_int ?_ | refine leF_bool ?_ | exact leN_varA (fun _ _ => (Elem.flat _ _ _).le) | exact leN_varA (fun _ _ => leC_top) | apply And.intro)
           exact tapeN_le)
      | exact Done.mk (leF_bool hs)
  · refine ⟨rfl, ?_, ?_⟩
    · repeat' (first | exact trivial | exact rfl | exact leF_ptr rfl | exact leF_int rfl | exact leF_bool rfl | exact leF_cl (cl_slB _ _) | exact leF_cl (cl_slR _ _) | exact leF_c (leC_os rfl rfl) | refine leF_int ?_ | refine leF_bool ?_ | exact leN_varA (fun _ _ => (Elem.flat _ _ _).le) | exact leN_varA (fun _ _ => leC_top) | apply And.intro)
      exact leF_c (leC_nils_sl rfl)
    · repeat' (first | exact trivial | exact rfl | exact leF_ptr rfl | exact leF_int rfl | exact leF_bool rfl | exact leF_cl (cl_slB _ _) | exact leF_cl (cl_slR _ _) | exact leF_c (leC_os rfl rfl) | refine leF_int ?_ | refine leF_bool ?_ | exact leN_varA (fun _ _ => (Elem.flat _ _ _).le) | exact leN_varA (fun _ _ => leC_top) | apply And.intro)
      · exact tapeN_le
      · refine leN_var ?_
        repeat' (first | exact trivial | exact leC_int rfl | apply And.intro)
end Go.Proofs.Ytcnfjifokeancaa.AX
