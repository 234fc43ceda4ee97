/- Layer 13 by AX2: parse, Decode, Forward, Same of the reference. -/
import Derived.Test.YtjknkfjhcapocaaPkT2
namespace Go.Proofs.Ytjknkfjhcapocaa.AX
open Go.RowKit
set_option linter.unusedVariables false
set_option linter.unusedSimpArgs false
def upTo (b : List Int) (o i : Nat) : Fin 16 → Int := fun q => if q.1 < i then b.getD (o + q.1) default else 0
def hdI (b : List Int) (v : Int) (i : Nat) : Hdr := ⟨IntKind.u8.wrap (shrI .u64 v 20), IntKind.u32.wrap (v.tmod 1048576), b.getD 6 default, b.getD 7 default, upTo b 8 i, upTo b 24 i, 0, 0⟩
theorem upTo_step (b : List Int) (o i q : Nat) (hq : q < 16) : vget (upTo b o (i + 1)) q = if q = i then b.getD (o + i) default else vget (upTo b o i) q := by
  rw [vget_lt _ hq, vget_lt _ hq]
  unfold upTo
  dsimp only
  by_cases h : q = i
  · subst h; rw [if_pos (by omega), if_pos rfl]
  · rw [if_neg h]
    by_cases h2 : q < i
    · rw [if_pos (by omega), if_pos h2]
    · rw [if_neg (by omega), if_neg h2]
theorem hd_step {c : Wc} {b : List Int} {v : Int} {i : Nat} (hi : i < 16) {o1 o2 : Nat} (h1 : o1 = 4 + i) (h2 : o2 = 20 + i) {x1 x2 : Int} (e1 : x1 = b.getD (8 + i) default) (e2 : x2 = b.getD (24 + i) default) (j : Nat) (hj : j < 39) :
    LeC c (ovs (ovs (tailC eHd (hdI b v i) .nils) o1 1 fun _ => .int .u8 x1) o2 1 (fun _ => .int .u8 x2) j) (tailC eHd (hdI b v (i + 1)) .nils j) := by
  subst h1 h2 e1 e2
  rw [ovs_eq, ovs_eq]
  rcases Nat.lt_or_ge j 38 with hj2 | hj2
  · by_cases c2 : j = 20 + i
    · subst c2
      rw [ovrI (by omega), tailC_dst (k := i) rfl hi, show (hdI b v (i + 1)).dst = upTo b 24 (i + 1) from rfl, upTo_step _ _ _ _ hi, if_pos rfl]
      exact leC_int rfl
    · rw [ovrO (by omega)]
      by_cases c1 : j = 4 + i
      · subst c1
        rw [ovrI (by omega), tailC_src (k := i) rfl hi, show (hdI b v (i + 1)).src = upTo b 8 (i + 1) from rfl, upTo_step _ _ _ _ hi, if_pos rfl]
        exact leC_int rfl
      · rw [ovrO (by omega)]
        rcases Nat.lt_or_ge j 4 with g | g
        · rcases j with _ | _ | _ | _ | j
          · exact leC_int rfl
          · exact leC_int rfl
          · exact leC_int rfl
          · exact leC_int rfl
          · omega
        · rcases Nat.lt_or_ge j 20 with g2 | g2
          · obtain ⟨q, rfl⟩ : ∃ q, j = 4 + q := ⟨j - 4, by omega⟩
            rw [tailC_src (k := q) rfl (by omega), tailC_src (k := q) rfl (by omega), show (hdI b v (i + 1)).src = upTo b 8 (i + 1) from rfl, upTo_step _ _ _ _ (by omega), if_neg (by omega)]
            exact leC_int rfl
          · rcases Nat.lt_or_ge j 36 with g3 | g3
            · obtain ⟨q, rfl⟩ : ∃ q, j = 20 + q := ⟨j - 20, by omega⟩
              rw [tailC_dst (k := q) rfl (by omega), tailC_dst (k := q) rfl (by omega), show (hdI b v (i + 1)).dst = upTo b 24 (i + 1) from rfl, upTo_step _ _ _ _ (by omega), if_neg (by omega)]
              exact leC_int rfl
            · rcases (show j = 36 ∨ j = 37 by omega) with rfl | rfl
              · exact leC_int rfl
              · exact leC_int rfl
  · obtain rfl : j = 38 := by omega
    rw [ovrO (by omega), ovrO (by omega)]
    exact leC_nils
theorem isRow_b0 {b : List Int} {Z : Nat → Nat → CV} (a : Nat) : IsRow (fun q j => selC (Nat.blt (0 + q) 0) (Z (0 + q) j) (rowF eB b (a + (0 + q - 0)) j)) (b.drop a) := ⟨fun k hk => by
  rw [getD_dropI]
  show selC false _ (.int .u8 (b.getD (a + (0 + k - 0)) default)) = _
  rw [selC_false, show 0 + k - 0 = k by omega]⟩
theorem tail_le {c : Wc} {h : Hdr} {j : Nat} : LeC c (tailC eHd h .nils j) (tailC eHd h .nils j) := by
  unfold tailC
  cases Nat.blt j eHd.sz with
  | true => exact (eHd.flat _ _).le
  | false => exact leC_nils
set_option maxHeartbeats 8000000 in
set_option maxRecDepth 20000 in
theorem parse_ok (b : List Int) (hb : BL b) (hl : 40 ≤ b.length ∧ b.length ≤ 1280) (h17 : b.getD 6 default = 17 → 48 ≤ b.length) : PureOk Try.prog 110 [(cSl eB eB_sz).enc b] (.tup [tailR eHd eB (pkF b), .c (.int .u16 (rsumB b))]) := by
  obtain ⟨W, eW⟩ : ∃ W : Pkt × Int, (pkF b, rsumB b) = W := ⟨_, rfl⟩
  rw [show pkF b = W.1 from congrArg Prod.fst eW, show rsumB b = W.2 from congrArg Prod.snd eW]
  have hl2 : b.length ≤ 70368744177664 := by omega
  refine pure_intro (wd := 1) (Q := mkQ LRp4) (by decide) tysOk (q_of LRp4_ok) mixed Try.func110 rfl _ (by show 1 ≤ _; decide) _ ?_
  repeat' (first | (apply And.intro <;> intro hc <;> (first | exact Bool.noConfusion hc | (simp only [decide_eq_true_eq, decide_eq_false_iff_not, Bool.not_eq_true', Bool.not_eq_false', beq_iff_eq, beq_eq_false_iff_ne, bne_iff_ne, bne_eq_false_iff_eq, Bool.true_eq_false, Bool.false_eq_true, ne_eq, not_true_eq_false] at hc <;> first | exact absurd rfl hc | skip) | skip)) | (refine And.intro (by first | exact trivial | decide | omega | (dsimp only; omega) | exact fun _ _ => rfl | exact ⟨by assumption, by first | exact trivial | decide | omega | (dsimp only; omega)⟩) ?_) | (apply And.intro) | (intro s hs; skip))
  · dsimp only; rw [toL_b]; exact hb
  · dsimp only; rw [toL_b]; exact hl2
  have ev : s.1 = uI b 0 4 := congrArg Prod.fst (hs.trans (congrArg (fun x => uintF x 0 4) (toL_b b)))
  clear hs
  obtain ⟨v, vb⟩ := s
  have ev : v = uI b 0 4 := ev
  have hf : IntKind.u32.wrap (v.tmod 1048576) = IntKind.u32.wrap (bits .and .u64 (uI b 0 4) 1048575) := by
    have h0 := hb.get 0; have h1 := hb.get 1; have h2 := hb.get 2; have h3 := hb.get 3
    have e4 := uI_4 (b := b) (by omega)
    rw [ev, and20 (by omega), Int.tmod_eq_emod_of_nonneg (by omega)]
  refine loop_intro (mono_of LRp4_ok) (fun i : {i : Nat // i ≤ 16} => (⟨[(0, one (.sl false b.length eB.sz (rowF eB b))), (2, one (.ptr 0 0 0 false)), (3, one (.int .u16 0)), (6, one (.ptr 22 0 0 false)), (7, one (.int .i64 (i.1 : Int)))],
    [(0, some ⟨28, 1, 39, true, fun _ => tailC eHd pk0.1 .nils⟩), (22, some ⟨28, 1, 39, true, fun _ => tailC eHd (hdI b v i.1) .nils⟩)], 25⟩ : Hd)) (fun i => 16 - i.1) (fun _ => rfl) ?_ ⟨0, by omega⟩ [] ?_
  · rintro ⟨i, hi⟩
    dsimp only at hi ⊢
    have w8 : IntKind.i64.wrap (8 + (i : Int)) = 8 + i := IntWalk.i64_in _ (by omega)
    have w24 : IntKind.i64.wrap (24 + (i : Int)) = 24 + i := IntWalk.i64_in _ (by omega)
    repeat' (first | (apply And.intro <;> intro hc <;> (first | exact Bool.noConfusion hc | (simp only [decide_eq_true_eq, decide_eq_false_iff_not, Bool.not_eq_true', Bool.not_eq_false', beq_iff_eq, beq_eq_false_iff_ne, bne_iff_ne, bne_eq_false_iff_eq, Bool.true_eq_false, Bool.false_eq_true, ne_eq, not_true_eq_false] at hc <;> first | exact absurd rfl hc | skip) | skip)) | (refine And.intro (by first | exact trivial | decide | omega | (dsimp only; omega) | exact fun _ _ => rfl | exact ⟨by assumption, by first | exact trivial | decide | omega | (dsimp only; omega)⟩) ?_) | (apply And.intro) | (intro s hs; (dsimp only at hs; rw [toL_b] at hs)))
    all_goals first
      | (rw [w8]; omega)
      | (rw [w24]; omega)
      | (dsimp only; rw [toL_b]; exact hb)
      | (dsimp only; rw [toL_b]; exact hl2)
      | (show (0 : Int) ≤ _; omega)
      | skip
    · refine ⟨⟨i + 1, by omega⟩, [], by dsimp only; omega, rfl, ?_, ?_⟩
      · repeat' (first | exact trivial | exact rfl | exact leF_ptr rfl | exact leF_int rfl | exact leF_bool rfl | exact leF_cl (cl_slB _ _) | exact leF_cl (cl_slR _ _) | exact leF_cl (cl_ll _ _) | exact leF_c (leC_os rfl rfl) | refine leF_int ?_ | refine leF_bool ?_ | exact leN_varA (fun _ _ => (Elem.flat _ _ _).le) | exact leN_varA (fun _ _ => leC_top) | apply And.intro)
        refine (IntWalk.i64_in _ ?_).trans ?_
        · constructor <;> omega
        · dsimp only
          omega
      · repeat' (first | exact trivial | exact rfl | exact leF_ptr rfl | exact leF_int rfl | exact leF_bool rfl | exact leF_cl (cl_slB _ _) | exact leF_cl (cl_slR _ _) | exact leF_cl (cl_ll _ _) | exact leF_c (leC_os rfl rfl) | refine leF_int ?_ | refine leF_bool ?_ | exact leN_varA (fun _ _ => (Elem.flat _ _ _).le) | exact leN_varA (fun _ _ => leC_top) | apply And.intro)
        all_goals first
          | exact leN_varA fun j _ => tail_le
          | (refine leN_varA fun j hj => hd_step (by omega) ?_ ?_ ?_ ?_ j hj
             · omega
             · omega
             · exact congrArg (fun z => b.getD (Int.toNat z) default) w8
             · exact congrArg (fun z => b.getD (Int.toNat z) default) w24)
          | skip
    · have h48 := h17 (by assumption)
      omega
    · obtain rfl : i = 16 := by omega
      have h6 : b.getD 6 default = 17 := by assumption
      have h48 := h17 h6
      rename_i z1 hz1 z2 hz2 _
      have e : W = (pkU b, IntKind.u16.wrap (uI b 46 2)) := by rw [← eW]; unfold pkF rsumB; rw [if_pos h6, if_pos h6]
      rw [e]
      have e1 : z1.1 = uI b 40 2 := congrArg Prod.fst hz1
      have e2 : z2.1 = uI b 42 2 := congrArg Prod.fst hz2
      have e3 : s.1 = uI b 46 2 := congrArg Prod.fst hs
      refine Done.mk (leF_tup ⟨leE_tail rfl (fun j hj => ?_) (leC_os_is (l := b.drop 48) rfl rfl rfl ?_ ?_ ?_), leC_int (by rw [e3]), trivial⟩)
      · rcases j with _ | _ | j
        · exact leC_int (by rw [ev]; rfl)
        · exact leC_int hf
        · iterate 34 (rcases j with _ | j; exact leC_int rfl)
          rcases j with _ | _ | j
          · exact leC_int (by rw [e1]; rfl)
          · exact leC_int (by rw [e2]; rfl)
          · exact absurd hj (by show ¬ _ < 38; omega)
      · rw [List.length_drop]; show 0 + (b.length - 48) = _; omega
      · exact Nat.le_refl _
      · exact isRow_b0 (Z := fun _ => nth [.int .u8 0]) 48
    · obtain rfl : i = 16 := by omega
      have h6 : b.getD 6 default ≠ 17 := by assumption
      have e : W = (pkN b, 0) := by rw [← eW]; unfold pkF rsumB; rw [if_neg h6, if_neg h6]
      rw [e]
      refine Done.mk (leF_tup ⟨leE_tail rfl (fun j hj => ?_) (leC_os_is (l := b.drop 40) rfl rfl rfl ?_ ?_ ?_), leC_int rfl, trivial⟩)
      · rcases j with _ | _ | j
        · exact leC_int (by rw [ev]; rfl)
        · exact leC_int hf
        · iterate 36 (rcases j with _ | j; exact leC_int rfl)
          exact absurd hj (by show ¬ _ < 38; omega)
      · rw [List.length_drop]; show 0 + (b.length - 40) = _; omega
      · exact Nat.le_refl _
      · exact isRow_b0 (Z := fun _ => nth [.int .u8 0]) 40
  · refine ⟨rfl, ?_, ?_⟩
    · repeat' (first | exact trivial | exact rfl | exact leF_ptr rfl | exact leF_int rfl | exact leF_bool rfl | exact leF_cl (cl_slB _ _) | exact leF_cl (cl_slR _ _) | exact leF_cl (cl_ll _ _) | exact leF_c (leC_os rfl rfl) | refine leF_int ?_ | refine leF_bool ?_ | exact leN_varA (fun _ _ => (Elem.flat _ _ _).le) | exact leN_varA (fun _ _ => leC_top) | apply And.intro)
    · repeat' (first | exact trivial | exact rfl | exact leF_ptr rfl | exact leF_int rfl | exact leF_bool rfl | exact leF_cl (cl_slB _ _) | exact leF_cl (cl_slR _ _) | exact leF_cl (cl_ll _ _) | exact leF_c (leC_os rfl rfl) | refine leF_int ?_ | refine leF_bool ?_ | exact leN_varA (fun _ _ => (Elem.flat _ _ _).le) | exact leN_varA (fun _ _ => leC_top) | apply And.intro)
      all_goals
        refine leN_var ?_
        repeat' (first | exact trivial | exact leC_int rfl | exact leC_nils | apply And.intro)
def encPS (s : Pkt × Int) : FV := .tup [tailR eHd eB s.1, .c (.int .u16 s.2)]
abbrev parseE : Entry := pureE (AC.cons (cSl eB eB_sz) AC.nil) (fun a => BL a.1 ∧ (40 ≤ a.1.length ∧ a.1.length ≤ 1280) ∧ (a.1.getD 6 default = 17 → 48 ≤ a.1.length)) (fun a => (pkF a.1, rsumB a.1)) encPS
def LRp5 : CsL := (110, some parseE) :: LRp4
theorem LRp5_ok : AllOk Try.prog LRp5 := ⟨pureE_ok ⟨_, Try.func110, rfl, by kernel_rfl⟩ fun a h => parse_ok a.1 h.1 h.2.1 h.2.2, LRp4_ok⟩
end Go.Proofs.Ytjknkfjhcapocaa.AX
