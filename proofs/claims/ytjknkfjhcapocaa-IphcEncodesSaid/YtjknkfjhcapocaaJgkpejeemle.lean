/- Texts of one's own in one file: PkT3, PkT4, PkT5, PkN, PkU, IhW. -/
import Derived.Test.YtjknkfjhcapocaaJaabbaoonll
/- Layer 13 by AX2: parse, Decode, Forward, Same of the reference. -/
namespace Go.Proofs.Ytjknkfjhcapocaa.AX
open Go.RowKit
set_option linter.unusedVariables false
set_option linter.unusedSimpArgs false
def upTo (b : List Int) (o i : Nat) : Fin 16 → Int := fun q => if q.1 < i then b.getD (o + q.1) default else 0
def hdI (b : List Int) (v : Int) (i : Nat) : Hdr := ⟨IntKind.u8.wrap (shrI .u64 v 20), IntKind.u32.wrap (v.tmod 1048576), b.getD 6 default, b.getD 7 default, upTo b 8 i, upTo b 24 i, 0, 0⟩
theorem upTo_step (b : List Int) (o i q : Nat) (hq : q < 16) : vget (upTo b o (i + 1)) q = if q = i then b.getD (o + i) default else vget (upTo b o i) q := by
  rw [vget_lt _ hq, vget_lt _ hq]
  unfold upTo
  dsimp only
  by_cases h : q = i
  · subst h; rw [if_pos (by omega), if_pos rfl]
  · rw [if_neg h]
    by_cases h2 : q < i
    · rw [if_pos (by omega), if_pos h2]
    · rw [if_neg (by omega), if_neg h2]
theorem hd_step {c : Wc} {b : List Int} {v : Int} {i : Nat} (hi : i < 16) {o1 o2 : Nat} (h1 : o1 = 4 + i) (h2 : o2 = 20 + i) {x1 x2 : Int} (e1 : x1 = b.getD (8 + i) default) (e2 : x2 = b.getD (24 + i) default) (j : Nat) (hj : j < 39) :
    LeC c (ovs (ovs (tailC eHd (hdI b v i) .nils) o1 1 fun _ => .int .u8 x1) o2 1 (fun _ => .int .u8 x2) j) (tailC eHd (hdI b v (i + 1)) .nils j) := by
  subst h1 h2 e1 e2
  rw [ovs_eq, ovs_eq]
  rcases Nat.lt_or_ge j 38 with hj2 | hj2
  · by_cases c2 : j = 20 + i
    · subst c2
      rw [ovrI (by omega), tailC_dst (k := i) rfl hi, show (hdI b v (i + 1)).dst = upTo b 24 (i + 1) from rfl, upTo_step _ _ _ _ hi, if_pos rfl]
      exact leC_int rfl
    · rw [ovrO (by omega)]
      by_cases c1 : j = 4 + i
      · subst c1
        rw [ovrI (by omega), tailC_src (k := i) rfl hi, show (hdI b v (i + 1)).src = upTo b 8 (i + 1) from rfl, upTo_step _ _ _ _ hi, if_pos rfl]
        exact leC_int rfl
      · rw [ovrO (by omega)]
        rcases Nat.lt_or_ge j 4 with g | g
        · rcases j with _ | _ | _ | _ | j
          · exact leC_int rfl
          · exact leC_int rfl
          · exact leC_int rfl
          · exact leC_int rfl
          · omega
        · rcases Nat.lt_or_ge j 20 with g2 | g2
          · obtain ⟨q, rfl⟩ : ∃ q, j = 4 + q := ⟨j - 4, by omega⟩
            rw [tailC_src (k := q) rfl (by omega), tailC_src (k := q) rfl (by omega), show (hdI b v (i + 1)).src = upTo b 8 (i + 1) from rfl, upTo_step _ _ _ _ (by omega), if_neg (by omega)]
            exact leC_int rfl
          · rcases Nat.lt_or_ge j 36 with g3 | g3
            · obtain ⟨q, rfl⟩ : ∃ q, j = 20 + q := ⟨j - 20, by omega⟩
              rw [tailC_dst (k := q) rfl (by omega), tailC_dst (k := q) rfl (by omega), show (hdI b v (i + 1)).dst = upTo b 24 (i + 1) from rfl, upTo_step _ _ _ _ (by omega), if_neg (by omega)]
              exact leC_int rfl
            · rcases (show j = 36 ∨ j = 37 by omega) with rfl | rfl
              · exact leC_int rfl
              · exact leC_int rfl
  · obtain rfl : j = 38 := by omega
    rw [ovrO (by omega), ovrO (by omega)]
    exact leC_nils
theorem isRow_b0 {b : List Int} {Z : Nat → Nat → CV} (a : Nat) : IsRow (fun q j => selC (Nat.blt (0 + q) 0) (Z (0 + q) j) (rowF eB b (a + (0 + q - 0)) j)) (b.drop a) := ⟨fun k hk => by
  rw [getD_dropI]
  show selC false _ (.int .u8 (b.getD (a + (0 + k - 0)) default)) = _
  rw [selC_false, show 0 + k - 0 = k by omega]⟩
theorem tail_le {c : Wc} {h : Hdr} {j : Nat} : LeC c (tailC eHd h .nils j) (tailC eHd h .nils j) := by
  unfold tailC
  cases Nat.blt j eHd.sz with
  | true => exact (eHd.flat _ _).le
  | false => exact leC_nils
set_option maxHeartbeats 8000000 in
set_option maxRecDepth 20000 in
theorem parse_ok (b : List Int) (hb : BL b) (hl : 40 ≤ b.length ∧ b.length ≤ 1280) (h17 : b.getD 6 default = 17 → 48 ≤ b.length) : PureOk Try.prog 110 [(cSl eB eB_sz).enc b] (.tup [tailR eHd eB (pkF b), .c (.int .u16 (rsumB b))]) := by
  obtain ⟨W, eW⟩ : ∃ W : Pkt × Int, (pkF b, rsumB b) = W := ⟨_, rfl⟩
  rw [show pkF b = W.1 from congrArg Prod.fst eW, show rsumB b = W.2 from congrArg Prod.snd eW]
  have hl2 : b.length ≤ 70368744177664 := by omega
  refine pure_intro (wd := 1) (Q := mkQ LRp4) (by decide) tysOk (q_of LRp4_ok) mixed Try.func110 rfl _ (by show 1 ≤ _; decide) _ ?_
  repeat' (first | (apply And.intro <;> intro hc <;> (first | exact Bool.noConfusion hc | (simp only [decide_eq_true_eq, decide_eq_false_iff_not, Bool.not_eq_true', Bool.not_eq_false', beq_iff_eq, beq_eq_false_iff_ne, bne_iff_ne, bne_eq_false_iff_eq, Bool.true_eq_false, Bool.false_eq_true, ne_eq, not_true_eq_false] at hc <;> first | exact absurd rfl hc | skip) | skip)) | (refine And.intro (by first | exact trivial | decide | omega | (dsimp only; omega) | exact fun _ _ => rfl | exact ⟨by assumption, by first | exact trivial | decide | omega | (dsimp only; omega)⟩) ?_) | (apply And.intro) | (intro s hs; skip))
  · dsimp only; rw [toL_b]; exact hb
  · dsimp only; rw [toL_b]; exact hl2
  have ev : s.1 = uI b 0 4 := congrArg Prod.fst (hs.trans (congrArg (fun x => uintF x 0 4) (toL_b b)))
  clear hs
  obtain ⟨v, vb⟩ := s
  have ev : v = uI b 0 4 := ev
  have hf : IntKind.u32.wrap (v.tmod 1048576) = IntKind.u32.wrap (bits .and .u64 (uI b 0 4) 1048575) := by
    have h0 := hb.get 0; have h1 := hb.get 1; have h2 := hb.get 2; have h3 := hb.get 3
    have e4 := uI_4 (b := b) (by omega)
    rw [ev, and20 (by omega), Int.tmod_eq_emod_of_nonneg (by omega)]
  refine loop_intro (mono_of LRp4_ok) (fun i : {i : Nat // i ≤ 16} => (⟨[(0, one (.sl false b.length eB.sz (rowF eB b))), (2, one (.ptr 0 0 0 false)), (3, one (.int .u16 0)), (6, one (.ptr 22 0 0 false)), (7, one (.int .i64 (i.1 : Int)))],
    [(0, some ⟨28, 1, 39, true, fun _ => tailC eHd pk0.1 .nils⟩), (22, some ⟨28, 1, 39, true, fun _ => tailC eHd (hdI b v i.1) .nils⟩)], 25⟩ : Hd)) (fun i => 16 - i.1) (fun _ => rfl) ?_ ⟨0, by omega⟩ [] ?_
  · rintro ⟨i, hi⟩
    dsimp only at hi ⊢
    have w8 : IntKind.i64.wrap (8 + (i : Int)) = 8 + i := IntWalk.i64_in _ (by omega)
    have w24 : IntKind.i64.wrap (24 + (i : Int)) = 24 + i := IntWalk.i64_in _ (by omega)
    repeat' (first | (apply And.intro <;> intro hc <;> (first | exact Bool.noConfusion hc | (simp only [decide_eq_true_eq, decide_eq_false_iff_not, Bool.not_eq_true', Bool.not_eq_false', beq_iff_eq, beq_eq_false_iff_ne, bne_iff_ne, bne_eq_false_iff_eq, Bool.true_eq_false, Bool.false_eq_true, ne_eq, not_true_eq_false] at hc <;> first | exact absurd rfl hc | skip) | skip)) | (refine And.intro (by first | exact trivial | decide | omega | (dsimp only; omega) | exact fun _ _ => rfl | exact ⟨by assumption, by first | exact trivial | decide | omega | (dsimp only; omega)⟩) ?_) | (apply And.intro) | (intro s hs; (dsimp only at hs; rw [toL_b] at hs)))
    all_goals first
      | (rw [w8]; omega)
      | (rw [w24]; omega)
      | (dsimp only; rw [toL_b]; exact hb)
      | (dsimp only; rw [toL_b]; exact hl2)
      | (show (0 : Int) ≤ _; omega)
      | skip
    · refine ⟨⟨i + 1, by omega⟩, [], by dsimp only; omega, rfl, ?_, ?_⟩
      · repeat' (first | exact trivial | exact rfl | exact leF_ptr rfl | exact leF_int rfl | exact leF_bool rfl | exact leF_cl (cl_slB _ _) | exact leF_cl (cl_slR _ _) | exact leF_cl (cl_ll _ _) | exact leF_c (leC_os rfl rfl) | refine leF_int ?_ | refine leF_bool ?_ | exact leN_varA (fun _ _ => (Elem.flat _ _ _).le) | exact leN_varA (fun _ _ => leC_top) | apply And.intro)
        refine (IntWalk.i64_in _ ?_).trans ?_
        · constructor <;> omega
        · dsimp only
          omega
      · repeat' (first | exact trivial | exact rfl | exact leF_ptr rfl | exact leF_int rfl | exact leF_bool rfl | exact leF_cl (cl_slB _ _) | exact leF_cl (cl_slR _ _) | exact leF_cl (cl_ll _ _) | exact leF_c (leC_os rfl rfl) | refine leF_int ?_ | refine leF_bool ?_ | exact leN_varA (fun _ _ => (Elem.flat _ _ _).le) | exact leN_varA (fun _ _ => leC_top) | apply And.intro)
        all_goals first
          | exact leN_varA fun j _ => tail_le
          | (refine leN_varA fun j hj => hd_step (by omega) ?_ ?_ ?_ ?_ j hj
             · omega
             · omega
             · exact congrArg (fun z => b.getD (Int.toNat z) default) w8
             · exact congrArg (fun z => b.getD (Int.toNat z) default) w24)
          | skip
    · have h48 := h17 (by assumption)
      omega
    · obtain rfl : i = 16 := by omega
      have h6 : b.getD 6 default = 17 := by assumption
      have h48 := h17 h6
      rename_i z1 hz1 z2 hz2 _
      have e : W = (pkU b, IntKind.u16.wrap (uI b 46 2)) := by rw [← eW]; unfold pkF rsumB; rw [if_pos h6, if_pos h6]
      rw [e]
      have e1 : z1.1 = uI b 40 2 := congrArg Prod.fst hz1
      have e2 : z2.1 = uI b 42 2 := congrArg Prod.fst hz2
      have e3 : s.1 = uI b 46 2 := congrArg Prod.fst hs
      refine Done.mk (leF_tup ⟨leE_tail rfl (fun j hj => ?_) (leC_os_is (l := b.drop 48) rfl rfl rfl ?_ ?_ ?_), leC_int (by rw [e3]), trivial⟩)
      · rcases j with _ | _ | j
        · exact leC_int (by rw [ev]; rfl)
        · exact leC_int hf
        · iterate 34 (rcases j with _ | j; exact leC_int rfl)
          rcases j with _ | _ | j
          · exact leC_int (by rw [e1]; rfl)
          · exact leC_int (by rw [e2]; rfl)
          · exact absurd hj (by show ¬ _ < 38; omega)
      · rw [List.length_drop]; show 0 + (b.length - 48) = _; omega
      · exact Nat.le_refl _
      · exact isRow_b0 (Z := fun _ => nth [.int .u8 0]) 48
    · obtain rfl : i = 16 := by omega
      have h6 : b.getD 6 default ≠ 17 := by assumption
      have e : W = (pkN b, 0) := by rw [← eW]; unfold pkF rsumB; rw [if_neg h6, if_neg h6]
      rw [e]
      refine Done.mk (leF_tup ⟨leE_tail rfl (fun j hj => ?_) (leC_os_is (l := b.drop 40) rfl rfl rfl ?_ ?_ ?_), leC_int rfl, trivial⟩)
      · rcases j with _ | _ | j
        · exact leC_int (by rw [ev]; rfl)
        · exact leC_int hf
        · iterate 36 (rcases j with _ | j; exact leC_int rfl)
          exact absurd hj (by show ¬ _ < 38; omega)
      · rw [List.length_drop]; show 0 + (b.length - 40) = _; omega
      · exact Nat.le_refl _
      · exact isRow_b0 (Z := fun _ => nth [.int .u8 0]) 40
  · refine ⟨rfl, ?_, ?_⟩
    · repeat' (first | exact trivial | exact rfl | exact leF_ptr rfl | exact leF_int rfl | exact leF_bool rfl | exact leF_cl (cl_slB _ _) | exact leF_cl (cl_slR _ _) | exact leF_cl (cl_ll _ _) | exact leF_c (leC_os rfl rfl) | refine leF_int ?_ | refine leF_bool ?_ | exact leN_varA (fun _ _ => (Elem.flat _ _ _).le) | exact leN_varA (fun _ _ => leC_top) | apply And.intro)
    · repeat' (first | exact trivial | exact rfl | exact leF_ptr rfl | exact leF_int rfl | exact leF_bool rfl | exact leF_cl (cl_slB _ _) | exact leF_cl (cl_slR _ _) | exact leF_cl (cl_ll _ _) | exact leF_c (leC_os rfl rfl) | refine leF_int ?_ | refine leF_bool ?_ | exact leN_varA (fun _ _ => (Elem.flat _ _ _).le) | exact leN_varA (fun _ _ => leC_top) | apply And.intro)
      all_goals
        refine leN_var ?_
        repeat' (first | exact trivial | exact leC_int rfl | exact leC_nils | apply And.intro)
def encPS (s : Pkt × Int) : FV := .tup [tailR eHd eB s.1, .c (.int .u16 s.2)]
abbrev parseE : Entry := pureE (AC.cons (cSl eB eB_sz) AC.nil) (fun a => BL a.1 ∧ (40 ≤ a.1.length ∧ a.1.length ≤ 1280) ∧ (a.1.getD 6 default = 17 → 48 ≤ a.1.length)) (fun a => (pkF a.1, rsumB a.1)) encPS
def LRp5 : CsL := (110, some parseE) :: LRp4
theorem LRp5_ok : AllOk Try.prog LRp5 := ⟨pureE_ok ⟨_, Try.func110, rfl, by kernel_rfl⟩ fun a h => parse_ok a.1 h.1 h.2.1 h.2.2, LRp4_ok⟩
end Go.Proofs.Ytjknkfjhcapocaa.AX
/- Layer 13 by AX2: Decode, Forward, Same of the reference. -/
namespace Go.Proofs.Ytjknkfjhcapocaa.AX
open Go.RowKit
set_option linter.unusedVariables false
set_option linter.unusedSimpArgs false
set_option maxHeartbeats 8000000 in
set_option maxRecDepth 20000 in
theorem rdecode_ok (b : List Int) (hb : BL b) (hl : b.length ≤ 140737488355328) : PureOk Try.prog 71 [(cSl eB eB_sz).enc b] (encPE (rdecF b)) := by
  obtain ⟨P, eP⟩ : ∃ P, pkF b = P := ⟨_, rfl⟩
  obtain ⟨R, eR⟩ : ∃ R, rsumB b = R := ⟨_, rfl⟩
  have hR : 0 ≤ R ∧ R < 65536 := by
    rw [← eR]
    unfold rsumB
    split
    · exact u16r' _
    · omega
  obtain ⟨W, eW⟩ : ∃ W, rdecF b = W := ⟨_, rfl⟩
  rw [eW]
  have hP : 40 ≤ b.length → b.length ≤ 1280 → PkW P ∧ P.2.length ≤ 1280 := fun h1 h2 => by
    rw [← eP]
    refine ⟨pkF_w hb h1, ?_⟩
    rw [pkF_pay]
    split
    · rw [List.length_drop]; omega
    · rw [List.length_drop]; omega
  unfold rdecF at eW
  rw [eP, eR] at eW
  have hn : P.1.nxt = b.getD 6 default := by rw [← eP]; exact pkF_nxt b
  refine pure_intro (wd := 1) (Q := mkQ LRp5) (by decide) tysOk (q_of LRp5_ok) mixed Try.func71 rfl _ (by show 1 ≤ _; decide) _ ?_
  repeat' (first | (apply And.intro <;> intro hc <;> (first | exact Bool.noConfusion hc | (simp only [decide_eq_true_eq, decide_eq_false_iff_not, Bool.not_eq_true', Bool.not_eq_false', beq_iff_eq, beq_eq_false_iff_ne, bne_iff_ne, bne_eq_false_iff_eq, Bool.true_eq_false, Bool.false_eq_true, ne_eq, not_true_eq_false] at hc <;> first | exact absurd rfl hc | skip) | skip)) | (refine And.intro (by first | exact trivial | decide | omega | (dsimp only; omega) | exact fun _ _ => rfl | exact ⟨by assumption, by first | exact trivial | decide | omega | (dsimp only; omega)⟩) ?_) | (apply And.intro) | (intro s hs; (first | (have q : s = (P, R) := (by (rw [hs]; dsimp only; rw [toL_b, eP, eR])); clear hs; subst q) | (have q : s = validP P := hs.trans (congrArg validP (pk_eq P _)); clear hs; subst q) | (have q : s = sumP P := hs.trans (congrArg sumP (pk_eq P _)); clear hs; subst q) | (have hE : s = encB P R := hs.trans (congrArg (fun x => encB x R) (pk_eq P _)); clear hs) | (have hS := hs; dsimp only at hS; rw [toL_b0, toL_b] at hS; clear hs) | skip)))
  all_goals
    try (have h6 : b.getD 6 default = 17 := by assumption)
    try (have h6 : ¬ b.getD 6 default = 17 := by assumption)
  all_goals first
    | (dsimp only; rw [toL_b]; exact hb)
    | (dsimp only; rw [toL_b]; omega)
    | exact rfl
    | exact Eq.mp (congrArg PkW (pk_eq P _).symm) (hP (by omega) (by omega)).1
    | (show (toL eB _ _).length ≤ _; rw [toL_len]; have := (hP (by omega) (by omega)).2; omega)
    | (have hq := encB_len P R; have hz := (hP (by omega) (by omega)).2; dsimp only; rw [toL_b0, hE]; unfold sizeP at hq; split at hq <;> omega)
    | exact hR.1
    | exact hR.2
    | (dsimp only; rw [toL_b]; intro h; omega)
    | (have e : W = (pk0, 3) := by rw [← eW, if_pos (by omega)]
       rw [e]
       refine Done.mk (leF_tup ⟨leE_tail rfl (fun j hj => ?_) (leC_nils_sl rfl), leC_int rfl, trivial⟩)
       iterate 38 (rcases j with _ | j; exact leC_int rfl)
       exact absurd hj (by show ¬ _ < 38; omega))
    | (have e : W = (pk0, 4) := by rw [← eW, if_neg (by omega), if_pos (by omega)]
       rw [e]
       refine Done.mk (leF_tup ⟨leE_tail rfl (fun j hj => ?_) (leC_nils_sl rfl), leC_int rfl, trivial⟩)
       iterate 38 (rcases j with _ | j; exact leC_int rfl)
       exact absurd hj (by show ¬ _ < 38; omega))
    | (have hv : validP P = false := by assumption
       have e : W = (pk0, 5) := by rw [← eW, if_neg (by omega), if_neg (by omega), if_pos (.inl hv)]
       rw [e]
       refine Done.mk (leF_tup ⟨leE_tail rfl (fun j hj => ?_) (leC_nils_sl rfl), leC_int rfl, trivial⟩)
       iterate 38 (rcases j with _ | j; exact leC_int rfl)
       exact absurd hj (by show ¬ _ < 38; omega))
    | (have hv := of_decide_eq_false (hS.symm.trans (by assumption))
       rw [hE] at hv
       have e : W = (pk0, 5) := by rw [← eW, if_neg (by omega), if_neg (by omega), if_pos (.inr hv)]
       rw [e]
       refine Done.mk (leF_tup ⟨leE_tail rfl (fun j hj => ?_) (leC_nils_sl rfl), leC_int rfl, trivial⟩)
       iterate 38 (rcases j with _ | j; exact leC_int rfl)
       exact absurd hj (by show ¬ _ < 38; omega))
    | (have hv := of_decide_eq_true (hS.symm.trans (by assumption))
       rw [hE] at hv
       have hvv : validP P = true := by assumption
       have n5 : ¬ (validP P = false ∨ encB P R ≠ b) := fun h => h.elim (fun h => Bool.noConfusion (hvv.symm.trans h)) (fun h => h hv)
       first
         | (have e : W = (pk0, 6) := by rw [← eW, if_neg (by omega), if_neg (by omega), if_neg n5, if_pos ⟨by omega, by assumption⟩]
            rw [e]
            refine Done.mk (leF_tup ⟨leE_tail rfl (fun j hj => ?_) (leC_nils_sl rfl), leC_int rfl, trivial⟩)
            iterate 38 (rcases j with _ | j; exact leC_int rfl)
            exact absurd hj (by show ¬ _ < 38; omega))
         | (have e : W = (P, 0) := by rw [← eW, if_neg (by omega), if_neg (by omega), if_neg n5, if_neg (fun h => by first | exact h.2 (by assumption) | omega)]
            rw [e]
            refine Done.mk (leF_tup ⟨leE_tail rfl (fun j hj => ?_) (leC_sl (fun _ => rfl) rfl rfl fun i _ j _ => leC_int rfl), leC_int rfl, trivial⟩)
            iterate 38 (rcases j with _ | j; exact leC_int rfl)
            exact absurd hj (by show ¬ _ < 38; omega)))
    | skip
abbrev rdecE : Entry := decE
def LRp6 : CsL := (71, some decE) :: LRp5
theorem LRp6_ok : AllOk Try.prog LRp6 := ⟨pureE_ok ⟨_, Try.func71, rfl, by kernel_rfl⟩ fun a h => (rdec_eq h.1) ▸ rdecode_ok a.1 h.1 h.2, LRp5_ok⟩
end Go.Proofs.Ytjknkfjhcapocaa.AX
/- Layer 13 by AX2: Forward, Same of the reference. -/
namespace Go.Proofs.Ytjknkfjhcapocaa.AX
open Go.RowKit
set_option linter.unusedVariables false
set_option linter.unusedSimpArgs false
theorem pkF_w' {b : List Int} (hb : BL b) (h : (decF b).2 = 0) : PkM (decF b).1 := by
  obtain ⟨e, hp, _⟩ := dec_enc hb h
  rw [e]; exact hp
theorem hops_eq {P : Pkt} {G : Nat → CV} {h : Int} (h0 : ∀ j, j < 38 → G j = eHd.cell (withHops P h).1 j) {F : Nat → Nat → CV} {n : Nat} (hF : toL eB n F = P.2) : ((eHd.rd G, toL eB n F) : Pkt) = withHops P h := by
  rw [hF, hd_congr G (eHd.cell (withHops P h).1) h0, eHd_rd]; rfl
set_option maxHeartbeats 8000000 in
set_option maxRecDepth 20000 in
theorem rforward_ok (b : List Int) (hb : BL b) (hl : b.length ≤ 140737488355328) : NewOk Try.prog 72 [(cSl eB eB_sz).enc b] (some (rfwdF b).1.length) (some [i64V (rfwdF b).2]) (ents eB 5 (rfwdF b).1) := by
  obtain ⟨d, eD⟩ : ∃ d, decF b = d := ⟨_, rfl⟩
  obtain ⟨w, eW⟩ : ∃ w, rfwdF b = w := ⟨_, rfl⟩
  rw [eW]
  unfold rfwdF at eW
  have hm := pkF_w' hb
  rw [eD] at eW hm
  have w8 : ∀ x, IntKind.u8.wrap x = IntKind.u8.wrap x := fun x => rfl
  refine new_intro (wd := 1) (Q := mkQ LRp6) (by decide) tysOk (q_of LRp6_ok) mixed Try.func72 rfl _ (by show 1 ≤ _; decide) (fun i _ j _ => row_nf eB _ i j) ?_
  repeat' (first | (apply And.intro <;> intro hc <;> (first | exact Bool.noConfusion hc | (simp only [decide_eq_true_eq, decide_eq_false_iff_not, Bool.not_eq_true', Bool.not_eq_false', beq_iff_eq, beq_eq_false_iff_ne, bne_iff_ne, bne_eq_false_iff_eq, Bool.true_eq_false, Bool.false_eq_true, ne_eq, not_true_eq_false] at hc <;> first | exact absurd rfl hc | skip) | skip)) | (refine And.intro (by first | exact trivial | decide | omega | (dsimp only; omega) | exact fun _ _ => rfl | exact ⟨by assumption, by first | exact trivial | decide | omega | (dsimp only; omega)⟩) ?_) | (apply And.intro) | (intro s hs; (first | (have q : d = s := (by (rw [hs]; dsimp only; rw [toL_b, eD])); clear hs; subst q) | skip)))
  all_goals first
    | (dsimp only; rw [toL_b]; exact hb)
    | (dsimp only; rw [toL_b]; exact hl)
    | (have e : w = ([], d.2) := by rw [← eW, if_pos hc]
       rw [e]
       exact ⟨⟨none, leF_tup ⟨leC_nils_os rfl, leC_int rfl, trivial⟩, rfl, rfl, (by show 0 < 1; omega)⟩⟩)
    | (have e : w = ([], 2) := by rw [← eW, if_neg (fun h => h (by assumption)), if_pos hc]
       rw [e]
       exact ⟨⟨none, leF_tup ⟨leC_nils_os rfl, leC_int rfl, trivial⟩, rfl, rfl, (by show 0 < 1; omega)⟩⟩)
    | skip
  · have hw := withHops_m (hm (by assumption)) (u8r (d.1.1.hops - 1))
    refine Eq.mp (congrArg PkW (hops_eq (P := d.1) (h := IntKind.u8.wrap (d.1.1.hops - 1)) (fun j hj => ?_) (toL_b d.1.2)).symm) hw.w
    iterate 38 (rcases j with _ | j; exact rfl)
    exact absurd hj (by omega)
  · have hw := valid_len (hm (by assumption)).v
    show (toL eB _ _).length ≤ _
    rw [toL_len]
    omega
  · have q : s = encR (withHops d.1 (IntKind.u8.wrap (d.1.1.hops - 1))) := by
      refine hs.trans (congrArg encR (hops_eq (P := d.1) (h := IntKind.u8.wrap (d.1.1.hops - 1)) (fun j hj => ?_) (toL_b d.1.2)))
      iterate 38 (rcases j with _ | j; exact rfl)
      exact absurd hj (by omega)
    clear hs
    have e : w = (s.getD [], ecR s) := by rw [← eW, if_neg (fun h => h (by assumption)), if_neg hc, ← q]
    rw [e]
    exact ⟨⟨some _, leF_tup ⟨leC_os rfl rfl, leC_int rfl, trivial⟩, leN_ents⟩⟩
def LRp7 : CsL := (72, some fwdE) :: LRp6
theorem LRp7_ok : AllOk Try.prog LRp7 := ⟨newE_ok ⟨_, Try.func72, rfl, by kernel_rfl⟩ (fun s l h x hx => by injection h with h; subst h; obtain rfl := List.mem_singleton.1 hx; exact nfE_c nf_int) fun a h => (rfwd_eq h.1) ▸ rforward_ok a.1 h.1 h.2, LRp6_ok⟩
theorem eqFrom_self {f : Nat → CV} : ∀ (n off : Nat), (∀ i, i < n → eqCell (f (off + i)) (f (off + i)) = true) → eqFrom f f n off = true := fun n off h => eqFrom_iff.2 h
theorem ip_self (a : Fin 16 → Int) (g : Nat → CV) (h : ∀ j, j < 16 → g j = .int .u8 (vget a j)) : eqFrom g g 16 0 = true := eqFrom_self 16 0 fun i hi => by
  rw [Nat.zero_add, h i hi]
  show (vget a i == vget a i) = true
  exact beq_self_eq_true _
set_option maxHeartbeats 8000000 in
set_option maxRecDepth 20000 in
theorem rsame_ok (p : Pkt) (hl : p.2.length ≤ 140737488355328) : PureOk Try.prog 31 [cPk.enc p, cPk.enc p] (cB.enc true) := by
  refine pure_intro (wd := 1) (Q := mkQ LRp7) (by decide) tysOk (q_of LRp7_ok) mixed Try.func31 rfl _ (by show 2 ≤ _; decide) _ ?_
  repeat' (first | (apply And.intro <;> intro hc <;> (first | exact Bool.noConfusion hc | (exfalso; first | exact absurd rfl hc | exact absurd (beq_self_eq_true _) (by rw [hc]; decide) | exact Bool.noConfusion ((ip_self p.1.src _ fun j hj => tailC_src (by omega) hj).symm.trans hc) | exact Bool.noConfusion ((ip_self p.1.dst _ fun j hj => tailC_dst (by omega) hj).symm.trans hc)) | (simp only [decide_eq_true_eq, decide_eq_false_iff_not, Bool.not_eq_true', Bool.not_eq_false', beq_iff_eq, beq_eq_false_iff_ne, bne_iff_ne, bne_eq_false_iff_eq, Bool.true_eq_false, Bool.false_eq_true, ne_eq, not_true_eq_false] at hc <;> first | exact absurd rfl hc | (exfalso; first | exact absurd rfl hc | exact absurd (beq_self_eq_true _) (by rw [hc]; decide) | exact Bool.noConfusion ((ip_self p.1.src _ fun j hj => tailC_src (by omega) hj).symm.trans hc) | exact Bool.noConfusion ((ip_self p.1.dst _ fun j hj => tailC_dst (by omega) hj).symm.trans hc)) | skip) | skip)) | (refine And.intro (by first | exact trivial | decide | omega | (dsimp only; omega) | exact fun _ _ => rfl | exact ⟨by assumption, by first | exact trivial | decide | omega | (dsimp only; omega)⟩) ?_) | (apply And.intro) | (intro s hs; skip))
  · exact fun _ => rfl
  · exact fun _ => rfl
  · dsimp only; rw [toL_b]; omega
  · have q : s = true := by
      rw [hs]
      dsimp only
      exact decide_eq_true rfl
    exact Done.mk (leF_bool q)
/-- Same, asked only where the packets are equal. -/
abbrev rsameE : Entry := pureE (AC.cons cPk (AC.cons cPk AC.nil)) (fun a => a.1 = a.2.1 ∧ a.1.2.length ≤ 140737488355328) (fun a => true) cB.enc
def LRp : CsL := (31, some rsameE) :: LRp7
theorem LRp_ok : AllOk Try.prog LRp := ⟨pureE_ok ⟨_, Try.func31, rfl, by kernel_rfl⟩ fun a h => by
  obtain ⟨p, q, u⟩ := a
  obtain ⟨h1, h2⟩ := h
  have h1 : p = q := h1
  subst h1
  exact rsame_ok p h2, LRp7_ok⟩
end Go.Proofs.Ytjknkfjhcapocaa.AX
/- What the maker Packet draws from a tape. -/
namespace Go.Proofs.Ytjknkfjhcapocaa.AX
open Go.RowKit
set_option linter.unusedVariables false
set_option linter.unusedSimpArgs false
theorem fin_mk {n : Nat} {l : List Int} {H : Hp} {g : Nat → CV} {m : Nat} (cls flow nxt hops : Int) (src dst : Fin 16 → Int) (sp dp : Int) (pay : List Int) (q : Int) (hm : m = 39)
    (hc : ∀ j, j < 38 → LeC ⟨H, [(0, some (tapeN n (rI l) q))], [], 1, true⟩ (g j) (eHd.cell ⟨cls, flow, nxt, hops, src, dst, sp, dp⟩ j))
    (hl : LeC ⟨H, [(0, some (tapeN n (rI l) q))], [], 1, true⟩ (g 38) (slR eB pay))
    (hE : WkE ⟨H, [(0, some (tapeN n (rI l) q))], [], 1, true⟩ (tapeN n (rI l) q) (some 0)) (hT : TapeOk n (rI l) q) (hP : PkM (⟨cls, flow, nxt, hops, src, dst, sp, dp⟩, pay)) :
    ∃ r : Pkt × Int, (PkM r.1 ∧ TapeOk n (rI l) r.2) ∧ FinM (.e (tailR eHd eB r.1)) (tapeN n (rI l) r.2) (.e (.agg m g)) H :=
  ⟨((⟨cls, flow, nxt, hops, src, dst, sp, dp⟩, pay), q), ⟨hP, hT⟩, ⟨leF_e (leE_tail hm hc hl), hE⟩⟩
theorem sz_r (p : Pkt) (h : p.2.length = 0) : sizeP p = 40 ∨ sizeP p = 48 := by
  unfold sizeP
  split <;> omega
theorem sz_eq (p : Pkt) (h : p.2.length = 0) : sizeP p = if p.1.nxt = 17 then 48 else 40 := by
  unfold sizeP
  rw [h]
  exact Int.add_zero _
theorem flow_r {s : Int} (h : 0 ≤ s ∧ s < 1048576) : 0 ≤ IntKind.u32.wrap s ∧ IntKind.u32.wrap s < 1048576 := by
  rw [IntWalk.u32_in s (by omega)]; exact h
theorem nff_tail {p : Pkt} : NFF (.e (tailR eHd eB p)) := nfE_tail
theorem fill_sz {nxt : Int} {zl : List Int} {z1 z0 : Int} {p : Pkt} (hz1 : z1 = sizeP p) (hp : p.2.length = 0) (hn : p.1.nxt = nxt) (h0 : 0 ≤ z0 ∧ z0 < 2) (h : BL zl ∧ (zl.length : Int) = IntKind.i64.wrap (IntKind.i64.wrap (1280 - z1) - z0)) : (if nxt = 17 then (48 : Int) else 40) + zl.length ≤ 1280 := by
  rw [sz_eq p hp, hn] at hz1
  have e1 : z1 = 40 ∨ z1 = 48 := by rw [hz1]; split <;> omega
  have w1 : IntKind.i64.wrap (1280 - z1) = 1280 - z1 := IntWalk.i64_in _ (by omega)
  have w2 : IntKind.i64.wrap (1280 - z1 - z0) = 1280 - z1 - z0 := IntWalk.i64_in _ (by omega)
  have h2 := h.2
  rw [w1, w2] at h2
  rw [← hz1]; omega
theorem byte_sz {nxt : Int} {zl : List Int} (h : BL zl ∧ (zl.length : Int) ≤ 12) : (if nxt = 17 then (48 : Int) else 40) + zl.length ≤ 1280 := by
  have := h.2
  split <;> omega
theorem mc_no {a' : Fin 16 → Int} {s : Bool} (hs : s = mcast a') (hc : s = false) : vget a' 0 ≠ 255 := by
  rw [hs] at hc
  unfold mcast at hc
  exact of_decide_eq_false hc
theorem zz256 : (0 : Int) ≤ 0 ∧ (0 : Int) < 256 := by decide
theorem zzf : (0 : Int) ≤ 0 ∧ (0 : Int) < 1048576 := by decide
theorem zz16 : (0 : Int) ≤ 0 ∧ (0 : Int) < 65536 := by decide
set_option maxHeartbeats 16000000 in
set_option maxRecDepth 20000 in
theorem packet_ok (n : Nat) (l : List Int) (q : Int) (a1 a2 : Adr) (ht : TapeOk n (rI l) q) :
    ∃ (r : Pkt) (q' : Int), PkM r ∧ TapeOk n (rI l) q' ∧ MethOk Try.prog 36 [(cE eAdr).enc a1, (cE eAdr).enc a2] (tapeN n (rI l) q) (.e (tailR eHd eB r)) (tapeN n (rI l) q') := by
  refine tape_intro (S := PkM) (enc := fun r => .e (tailR eHd eB r)) (wd := 1) (Q := mkQ LM) (by decide) tysOk (q_of LM_ok) mixed Try.func36 rfl _ (by show 2 + 1 ≤ _; decide) (fun _ => nff_tail) ?_
  repeat' (first | (apply And.intro <;> intro hc <;> (first | exact Bool.noConfusion hc | (simp only [decide_eq_true_eq, decide_eq_false_iff_not, Bool.not_eq_true', Bool.not_eq_false', beq_iff_eq, beq_eq_false_iff_ne, bne_iff_ne, bne_eq_false_iff_eq, Bool.true_eq_false, Bool.false_eq_true] at hc) | skip)) | (refine And.intro (by first | exact trivial | decide | omega | (dsimp only; omega) | exact fun _ _ => rfl | exact ⟨by assumption, by first | exact trivial | decide | omega | (dsimp only; omega)⟩) ?_) | (apply And.intro) | (intro s hs))
  all_goals first
    | exact Nat.le_trans (Nat.le_of_eq (toL_len _ _ _)) (Nat.zero_le _)
    | (rename_i s1 hs1 s0 hs0
       have e1 : s1 = 40 ∨ s1 = 48 := by rw [hs1]; exact sz_r _ rfl
       have e0 : 0 ≤ s0 ∧ s0 < 2 := hs0
       have w1 : IntKind.i64.wrap (1280 - s1) = 1280 - s1 := IntWalk.i64_in _ (by omega)
       have w2 : IntKind.i64.wrap (1280 - s1 - s0) = 1280 - s1 - s0 := IntWalk.i64_in _ (by omega)
       first
         | (show 0 ≤ IntKind.i64.wrap (IntKind.i64.wrap (1280 - s1) - s0); rw [w1, w2]; omega)
         | (show IntKind.i64.wrap (IntKind.i64.wrap (1280 - s1) - s0) ≤ 2000; rw [w1, w2]; omega))
    | skip
  all_goals first
    | (apply fin_mk (src := setV _ 0 32)
       · rfl
       · intro j hj
         iterate 38 (rcases j with _ | j; exact leC_int rfl)
         exact absurd hj (by omega)
       · exact leC_sl (fun _ => rfl) rfl rfl fun i _ j _ => leC_int rfl
       · exact tapeN_le
       · assumption
       · apply pkM_mk
         · first | exact u8r _ | exact zz256
         · first | exact flow_r (by assumption) | exact zzf
         · exact pick5 0 _ _ _ _ _ (by omega) _
         · exact pick5 0 _ _ _ _ _ (by omega) _
         · exact setV_ok (by assumption) (by omega)
         · assumption
         · first | assumption | exact zz16
         · first | assumption | exact zz16
         · exact (show BL _ ∧ _ from by assumption).1
         · show (32 : Int) ≠ 255; decide
         · first
             | exact byte_sz (by assumption)
             | (refine fill_sz (by assumption) ?_ ?_ (by assumption) (by assumption)
                · exact toL_len _ _ _
                · rfl)
         · first | exact .inl (by assumption) | exact .inr ⟨rfl, rfl⟩)
    | (apply fin_mk
       · rfl
       · intro j hj
         iterate 38 (rcases j with _ | j; exact leC_int rfl)
         exact absurd hj (by omega)
       · exact leC_sl (fun _ => rfl) rfl rfl fun i _ j _ => leC_int rfl
       · exact tapeN_le
       · assumption
       · apply pkM_mk
         · first | exact u8r _ | exact zz256
         · first | exact flow_r (by assumption) | exact zzf
         · exact pick5 0 _ _ _ _ _ (by omega) _
         · exact pick5 0 _ _ _ _ _ (by omega) _
         · assumption
         · assumption
         · first | assumption | exact zz16
         · first | assumption | exact zz16
         · exact (show BL _ ∧ _ from by assumption).1
         · (have hmc := mc_no (by assumption) (by assumption); exact hmc)
         · first
             | exact byte_sz (by assumption)
             | (refine fill_sz (by assumption) ?_ ?_ (by assumption) (by assumption)
                · exact toL_len _ _ _
                · rfl)
         · first | exact .inl (by assumption) | exact .inr ⟨rfl, rfl⟩)
    | skip
end Go.Proofs.Ytjknkfjhcapocaa.AX
/- The laws about packets: made, known, all contracts. -/
namespace Go.Proofs.Ytjknkfjhcapocaa.AX
open Go.RowKit
set_option linter.unusedVariables false
set_option linter.unusedSimpArgs false
/-- The entry of a function of a row of numbers whose outcome is any r with S r. -/
def madeE {R : Type} (S : R → Prop) (enc : R → FV) : Entry := fun args _ _ _ =>
  match args with
  | [.e (.c (.sl true n s f))] => bif Nat.beq s 1 then some fun K => (∃ l, f = rI l ∧ rngL l) ∧ ∀ r, S r → K (enc r) [] [] else none
  | _ => none
theorem madeE_ok {R : Type} {S : R → Prop} {enc : R → FV} {f : FuncId} (hb : hasBody Try.prog f) (h : ∀ n l, rngL l → ∃ r, S r ∧ PureOk Try.prog f [.e (.c (.sl true n 1 (rI l)))] (enc r)) : EntOk Try.prog f (madeE S enc) := by
  refine ⟨fun args H nm wd q hwd hq K hK => ?_, fun args H nm wd q hq K K' hKK hK => ?_⟩
  · unfold madeE at hq
    split at hq
    · rename_i n s g
      obtain ⟨hbb, hq⟩ := cond_some hq
      subst hq
      have hbb := Nat.eq_of_beq_eq_true hbb
      subst hbb
      obtain ⟨⟨l, rfl, hl⟩, hK⟩ := hK
      obtain ⟨r, h1, h2⟩ := h n l hl
      refine ⟨_, _, _, callR_pure (args' := [.e (.c (.sl true n 1 (rI l)))]) (rd := []) hb (fun H' _ => ⟨rfl, fun i x y hx hy => ?_⟩) h2, hK r h1⟩
      cases i with
      | zero => simp only [List.getElem?_cons_zero, Option.some.injEq] at hx hy; subst hx hy; exact bo_shI
      | succ i => cases i <;> cases hx
    · cases hq
  · unfold madeE at hq
    split at hq
    · obtain ⟨hbb, hq⟩ := cond_some hq
      subst hq
      exact ⟨hK.1, fun r h => hKK _ _ _ (hK.2 r h)⟩
    · cases hq
abbrev packE : Entry := tapeE (AC.cons (cE eAdr) (AC.cons (cE eAdr) AC.nil)) (fun _ => True) (fun a (r : Pkt) => PkM r) (fun r => .e (tailR eHd eB r))
def LMp : CsL := (36, some packE) :: LM0
theorem LMp_ok : AllOk Try.prog LMp := ⟨tapeE_ok ⟨_, Try.func36, rfl, by kernel_rfl⟩ fun n l q a ht hp => packet_ok n l q a.1 a.2.1 ht, LM0_ok⟩
set_option maxRecDepth 20000 in
theorem made_ok (n : Nat) (l : List Int) (hl : rngL l) : ∃ r, PkM r ∧ PureOk Try.prog 17 [.e (.c (.sl true n 1 (rI l)))] (.e (tailR eHd eB r)) := by
  refine pure_some (wd := 1) (Q := mkQ LMp) (by decide) tysOk (q_of LMp_ok) mixed Try.func17 rfl _ (by show 1 ≤ _; decide) (S := PkM) (enc := fun r => .e (tailR eHd eB r)) ?_
  repeat' (first | (apply And.intro <;> intro hc <;> (first | exact Bool.noConfusion hc | (simp only [decide_eq_true_eq, decide_eq_false_iff_not, Bool.not_eq_true', Bool.not_eq_false', beq_iff_eq, beq_eq_false_iff_ne, bne_iff_ne, bne_eq_false_iff_eq, Bool.true_eq_false, Bool.false_eq_true] at hc) | skip)) | (refine And.intro (by first | exact trivial | decide | omega | (dsimp only; omega) | exact fun _ _ => rfl | exact ⟨by assumption, by first | exact trivial | decide | omega | (dsimp only; omega)⟩) ?_) | (apply And.intro) | (intro s hs))
  · exact ⟨l, rfl, hl⟩
  intro ht0
  repeat' (first | (apply And.intro <;> intro hc <;> (first | exact Bool.noConfusion hc | (simp only [decide_eq_true_eq, decide_eq_false_iff_not, Bool.not_eq_true', Bool.not_eq_false', beq_iff_eq, beq_eq_false_iff_ne, bne_iff_ne, bne_eq_false_iff_eq, Bool.true_eq_false, Bool.false_eq_true] at hc) | skip)) | (refine And.intro (by first | exact trivial | decide | omega | (dsimp only; omega) | exact fun _ _ => rfl | exact ⟨by assumption, by first | exact trivial | decide | omega | (dsimp only; omega)⟩) ?_) | (apply And.intro) | (intro s hs))
  rename_i hm
  refine ⟨_, hm, Done.mk (leF_e (leE_tail rfl (fun j hj => ?_) (leC_sl (fun _ => rfl) rfl rfl fun i _ j _ => leC_int rfl)))⟩
  iterate 38 (rcases j with _ | j; exact leC_int rfl)
  exact absurd hj (by show ¬ _ < 38; omega)
abbrev mkE13 : Entry := madeE PkM (fun r => .e (tailR eHd eB r))
/-- The least packet. -/
def kP : Pkt := (⟨0, 0, 59, 1, fun _ => 0, fun _ => 0, 0, 0⟩, [])
theorem kP_m : PkM kP := ⟨by decide, by decide, by decide, by decide, by decide, fun i => by have : vget kP.1.src i = 0 := (by unfold vget kP; split <;> rfl); omega, fun i => by have : vget kP.1.dst i = 0 := (by unfold vget kP; split <;> rfl); omega, by decide, by decide, BL.nil⟩
theorem kL : ∃ L, encR kP = some L ∧ L.length = 40 ∧ L.getD 0 default = 96 ∧ BL L ∧ fwdF L = ([], 2) := by
  refine ⟨encB kP (sumP kP), if_pos kP_m.v, ?_, ?_, encB_BL kP_m.w _, ?_⟩
  · have h := encB_len kP (sumP kP)
    have : sizeP kP = 40 := rfl
    omega
  · rw [encB_hd]; rfl
  · rw [fwd_enc kP_m]; rfl
theorem kp_eq {G : Nat → CV} {F : Nat → Nat → CV} (h : ∀ j, j < 38 → G j = eHd.cell kP.1 j) : ((eHd.rd G, toL eB 0 F) : Pkt) = kP := by rw [hd_congr G (eHd.cell kP.1) h, eHd_rd]; rfl
set_option maxHeartbeats 8000000 in
set_option maxRecDepth 20000 in
theorem known_ok : PureOk Try.prog 28 [] (cB.enc true) := by
  obtain ⟨L, h1, h2, h3, h4, h5⟩ := kL
  refine pure_intro (wd := 1) (Q := mkQ LRp) (by decide) tysOk (q_of LRp_ok) mixed Try.func28 rfl _ (by show 0 ≤ _; decide) _ ?_
  repeat' (first | (apply And.intro <;> intro hc <;> (first | exact Bool.noConfusion hc | (simp only [decide_eq_true_eq, decide_eq_false_iff_not, Bool.not_eq_true', Bool.not_eq_false', beq_iff_eq, beq_eq_false_iff_ne, bne_iff_ne, bne_eq_false_iff_eq, Bool.true_eq_false, Bool.false_eq_true, ne_eq, not_true_eq_false] at hc <;> first | exact absurd rfl hc | skip) | skip)) | (refine And.intro (by first | exact trivial | decide | omega | (dsimp only; omega) | exact fun _ _ => rfl | exact ⟨by assumption, by first | exact trivial | decide | omega | (dsimp only; omega)⟩) ?_) | (apply And.intro) | (intro s hs; (first | (have q : s = some L := (by (refine hs.trans ((congrArg encR (kp_eq (fun j hj => ?_))).trans h1); (iterate 38 (rcases j with _ | j; exact rfl)); exact absurd hj (by omega))); clear hs; subst q) | (have q : s = ([], 2) := (by (refine hs.trans ?_; show fwdF (toL eB L.length fun k j => rowF eB L (0 + k) j) = _; rw [toL_b0]; exact h5)); clear hs; subst q) | skip)))
  · refine Eq.mp (congrArg PkW (kp_eq (fun j hj => ?_)).symm) kP_m.w
    iterate 38 (rcases j with _ | j; exact rfl)
    exact absurd hj (by omega)
  · exact Nat.le_trans (Nat.le_of_eq (toL_len _ _ _)) (Nat.zero_le _)
  all_goals first
    | exact rfl
    | exact Done.mk (leF_bool rfl)
    | (show BL (toL eB L.length fun k j => rowF eB L (0 + k) j); rw [toL_b0]; exact h4)
    | (show (toL eB L.length fun k j => rowF eB L (0 + k) j).length ≤ _; rw [toL_len, h2]; decide)
    | (have hb : ¬ L.getD 0 default = 96 := by assumption
       exact absurd h3 hb)
    | (have hb : ¬ (L.length : Int) = 40 := by assumption
       exact absurd (by rw [h2]; rfl) hb)
    | exact absurd rfl (by assumption : ¬ ecR (some L) = 0)
    | skip
abbrev kn13E : Entry := pureE AC.nil (fun _ => True) (fun _ => true) cB.enc
def LWp : CsL := (17, some mkE13) :: (28, some kn13E) :: (LT0 ++ LRp)
theorem LWp_ok : AllOk Try.prog LWp := ⟨madeE_ok ⟨_, Try.func17, rfl, by kernel_rfl⟩ made_ok, pureE_ok ⟨_, Try.func28, rfl, by kernel_rfl⟩ fun _ _ => known_ok, append_ok LT0_ok LRp_ok⟩
end Go.Proofs.Ytjknkfjhcapocaa.AX
/- The laws about compressed headers: known, all contracts. -/
namespace Go.Proofs.Ytjknkfjhcapocaa.AX
open Go.RowKit
set_option linter.unusedVariables false
set_option linter.unusedSimpArgs false
def k1 : Adr := ⟨2, 1, 0⟩
def k2 : Adr := ⟨2, 2, 0⟩
theorem k_link1 : linkF k1 = (jn llP.ip 1099478073345, true) := rfl
theorem k_link2 : linkF k2 = (jn llP.ip 1099478073346, true) := rfl
theorem k_enc : encI (hP 64 (jn llP.ip 1099478073345) (jn llP.ip 1099478073346)) k1 k2 [] 0 = ([126, 51], 0) := by decide +kernel
theorem zero_w {X Y : Fin 16 → Int} (hX : byteOk X) (hY : byteOk Y) {h : Int} (hh : 0 ≤ h ∧ h < 256) : PkW (hP h X Y) := ⟨(by decide : (0 : Int) ≤ 0 ∧ (0 : Int) < 256), (by decide : (0 : Int) ≤ 0 ∧ (0 : Int) < 4294967296), (by decide : (0 : Int) ≤ 17 ∧ (17 : Int) < 256), hh, fun i => hX.v i, fun i => hY.v i, (by decide : (0 : Int) ≤ 0 ∧ (0 : Int) < 65536), (by decide : (0 : Int) ≤ 0 ∧ (0 : Int) < 65536), BL.nil⟩
theorem bytes_nil : bytesL [] := ⟨(fun c h => by cases h), Nat.zero_le _⟩
theorem pk_hP {G : Nat → CV} {F : Nat → Nat → CV} {h : Int} {X Y : Fin 16 → Int} (hG : ∀ j, j < 38 → G j = eHd.cell (hP h X Y).1 j) : ((eHd.rd G, toL eB 0 F) : Pkt) = hP h X Y := pk_is (h := (hP h X Y).1) (l := []) hG rfl
def LIe : CsL := (41, some enIE) :: (LT4 ++ (LMp ++ (LRa ++ LAd)))
theorem LIe_ok : AllOk Try.prog LIe := ⟨enIE_ok, append_ok LT4_ok (append_ok LMp_ok (append_ok LRa_ok LAd_ok))⟩
set_option maxHeartbeats 8000000 in
set_option maxRecDepth 20000 in
theorem known14_ok : PureOk Try.prog 38 [] (cB.enc true) := by
  have hX : byteOk (jn llP.ip 1099478073345) := jn_ok llP_b _
  have hY : byteOk (jn llP.ip 1099478073346) := jn_ok llP_b _
  have hW := zero_w hX hY (h := 64) (by decide)
  have e1 := k_link1
  have e2 := k_link2
  have e3 := k_enc
  obtain ⟨X, eX⟩ : ∃ X, jn llP.ip 1099478073345 = X := ⟨_, rfl⟩
  obtain ⟨Y, eY⟩ : ∃ X, jn llP.ip 1099478073346 = X := ⟨_, rfl⟩
  rw [eX] at hX hW e1 e3
  rw [eY] at hY hW e2 e3
  have g1 : True := trivial
  have g2 : True := trivial
  refine pure_intro (wd := 1) (Q := mkQ LIe) (by decide) tysOk (q_of LIe_ok) mixed Try.func38 rfl _ (by show 0 ≤ _; decide) _ ?_
  repeat' (first | (apply And.intro <;> intro hc <;> (first | exact Bool.noConfusion hc | (simp only [decide_eq_true_eq, decide_eq_false_iff_not, Bool.not_eq_true', Bool.not_eq_false', beq_iff_eq, beq_eq_false_iff_ne, bne_iff_ne, bne_eq_false_iff_eq, Bool.true_eq_false, Bool.false_eq_true, ne_eq, not_true_eq_false] at hc <;> first | exact absurd rfl hc | skip) | skip)) | (refine And.intro (by first | exact trivial | decide | omega | (dsimp only; omega) | exact fun _ _ => rfl | exact ⟨by assumption, by first | exact trivial | decide | omega | (dsimp only; omega)⟩) ?_) | (apply And.intro) | (intro s hs; (first | (clear g1; have q : s = (X, true) := hs.trans e1; clear hs; subst q) | (clear g2; have q : s = (Y, true) := hs.trans e2; clear hs; subst q) | (have q : s = ([126, 51], 0) := (by (refine hs.trans ((congrArg (fun p => encI p k1 k2 [] 0) (pk_hP (h := 64) (X := X) (Y := Y) (fun j hj => ?_))).trans e3)); (iterate 38 (rcases j with _ | j; exact rfl)); exact absurd hj (by omega)); clear hs; subst q) | skip)))
  · refine Eq.mp (congrArg PkW (pk_hP (h := 64) (X := X) (Y := Y) (fun j hj => ?_)).symm) hW
    iterate 38 (rcases j with _ | j; exact rfl)
    exact absurd hj (by omega)
  · exact Nat.zero_le _
  · exact bytes_nil
  · exact Done.mk (leF_bool rfl)
abbrev kn14E : Entry := pureE AC.nil (fun _ => True) (fun _ => true) cB.enc
def LWi : CsL := (38, some kn14E) :: LIe
theorem LWi_ok : AllOk Try.prog LWi := ⟨pureE_ok ⟨_, Try.func38, rfl, by kernel_rfl⟩ fun _ _ => known14_ok, LIe_ok⟩
end Go.Proofs.Ytjknkfjhcapocaa.AX
