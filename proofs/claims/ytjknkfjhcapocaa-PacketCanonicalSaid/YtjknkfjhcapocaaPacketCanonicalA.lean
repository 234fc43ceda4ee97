/- PacketCanonical, by AX2: the law returns true. -/
import Derived.Test.YtjknkfjhcapocaaPkU
namespace Go.Proofs.Ytjknkfjhcapocaa.AX
open Go.RowKit
set_option linter.unusedVariables false
set_option linter.unusedSimpArgs false
theorem isRow_set {G : Nat → Nat → CV} {L : List Int} {i : Nat} {x : Int} {g : Nat → CV} (h : IsRow G L) (hg : g 0 = .int .u8 x) : IsRow (updE false G i g) (L.set i x) := ⟨fun k hk => by
  rw [List.length_set] at hk
  show selC (Nat.beq k i) (g 0) (G k 0) = _
  rw [selC_eq, hg, h.at_ k hk]
  by_cases e : k = i
  · subst e
    rw [beq_of rfl, cond_true, List.getD_eq_getElem?_getD, List.getElem?_set_self hk]; rfl
  · rw [beq_ne e, cond_false, List.getD_eq_getElem?_getD, List.getD_eq_getElem?_getD, List.getElem?_set_ne (by omega)]⟩
theorem pk_eq' (p : Pkt) (last : CV) : ((eHd.rd (tailC eHd p.1 last), toL eB p.2.length (rowF eB p.2)) : Pkt) = p := pk_is (h := p.1) (l := p.2) (fun j hj => tailC_lt hj) (toL_b p.2)
/-- What is decoded is encoded to the same bytes. -/
theorem canon {b : List Int} (hb : BL b) (h : (decF b).2 = 0) : PkM (decF b).1 ∧ encR (decF b).1 = some b := by
  obtain ⟨e, hp, hq⟩ := dec_enc hb h
  rw [e]
  refine ⟨hp, ?_⟩
  unfold encR
  rw [if_pos hp.v]
  exact congrArg some hq.symm
theorem dec_len2 {b : List Int} (h : (decF b).2 = 0) : b.length ≤ 1280 := (dec_len h).2.1
/-- The list of the two byte strings. -/
def lstF (raw M : List Int) (k _j : Nat) : CV := bif Nat.beq k 0 then slR eB raw else .os 3 0 M.length
theorem lst_le {c : Wc} {raw M : List Int} {k j : Nat} (h : c.src 3 = some 3) (hf : c.fin = false := by rfl) : LeC c (lstF raw M k j) (lstF raw M k j) := by
  unfold lstF
  cases Nat.beq k 0 with
  | true => exact (cl_slR eB raw) c hf
  | false => exact leC_os h rfl
set_option maxHeartbeats 4000000 in
set_option maxRecDepth 20000 in
theorem canonical_ok (raw : List Int) (hr : BL raw) (hrl : raw.length ≤ 140737488351232) (n : Nat) (l : List Int) (hl : rngL l) (at_ by_ : Int) (h2 : 0 ≤ by_ ∧ by_ < 256) : PureOk Try.prog 6 [.e (.c (.sl true raw.length 1 (rowF eB raw))), .e (.c (.sl true n 1 (rI l))), (cI .i64).enc at_, (cI .u8).enc by_] (.e (.c (.bool true))) := by
  refine pure_intro (wd := 1) (Q := mkQ LWp) (by decide) tysOk (q_of LWp_ok) mixed Try.func6 rfl _ (by show 4 ≤ _; decide) _ ?_
  repeat' (first | (apply And.intro <;> intro hc <;> (first | exact Bool.noConfusion hc | (simp only [decide_eq_true_eq, decide_eq_false_iff_not, Bool.not_eq_true', Bool.not_eq_false', beq_iff_eq, beq_eq_false_iff_ne, bne_iff_ne, bne_eq_false_iff_eq, Bool.true_eq_false, Bool.false_eq_true, ne_eq, not_true_eq_false] at hc <;> first | exact absurd rfl hc | skip) | skip)) | (refine And.intro (by first | exact trivial | decide | omega | (dsimp only; omega) | exact fun _ _ => rfl | exact ⟨by assumption, by first | exact trivial | decide | omega | (dsimp only; omega)⟩) ?_) | (apply And.intro) | (intro s hs; (first | (have q : s = encR r := hs.trans (congrArg encR (pk_eq' r _)); clear hs; rw [hE] at q; subst q) | (have q : s = true := hs; clear hs; subst q) | (have hm : PkM s := hs; clear hs; rename Pkt => r; obtain ⟨L, hE, hLn, hLb⟩ : ∃ L, encR r = some L ∧ (L.length : Int) = sizeP r ∧ BL L := ⟨encB r (sumP r), if_pos hm.v, encB_len _ _, encB_BL hm.w _⟩; have hsz := valid_size hm.v; have hsz2 := sizeP_ge r) | (have hi : 0 ≤ s ∧ s < (L.length : Int) := (by (rw [show s = modF at_ (L.length : Int) from hs]; exact modF_lt (by omega))); clear hs) | skip)))
  all_goals first
    | exact ⟨l, rfl, hl⟩
    | exact rfl
    | exact fun _ => rfl
    | exact Eq.mp (congrArg PkW (pk_eq' r _).symm) hm.w
    | (have hw := valid_len hm.v
       show (toL eB r.2.length _).length ≤ _
       rw [toL_len]
       omega)
    | (dsimp only [Option.getD_some]; omega)
    | (have hc' : (L.length : Int) < 40 := by assumption
       omega)
    | skip
  have hx : 0 ≤ bits .xor .u8 (rowF eB L (0 + s.toNat) 0 |> valI) by_ ∧ bits .xor .u8 (rowF eB L (0 + s.toNat) 0 |> valI) by_ < 256 := u8r _
  obtain ⟨M, eM, hMb, hMn⟩ : ∃ M, M = L.set (0 + s.toNat) (bits .xor .u8 (rowF eB L (0 + s.toNat) 0 |> valI) by_) ∧ BL M ∧ M.length = L.length := ⟨_, rfl, bl_set hLb hx, List.length_set ..⟩
  refine loop_intro (mono_of LWp_ok) (fun z : {i : Nat // i ≤ 2} => (⟨[(8, one (.bool false)), (11, one (.os 25 0 2)), (12, one (.int .i64 (z.1 : Int)))], [(3, some (ents eB 5 M)), (25, some ⟨26, 2, 1, false, lstF raw M⟩)], 28⟩ : Hd)) (fun z => 2 - z.1) (fun _ => rfl) ?_ ⟨0, by omega⟩ [] ?_
  · rintro ⟨i, hi2⟩
    have hMn' : M.length ≤ 1280 := by omega
    clear hE hLn hsz hsz2 hi hx eM hMn
    rcases i with _ | _ | _ | i
    · dsimp only
      obtain ⟨D, eD⟩ : ∃ D, decF raw = D := ⟨_, rfl⟩
      have hD : D.2 = 0 → PkM D.1 ∧ encR D.1 = some raw ∧ raw.length ≤ 1280 := fun h => by
        rw [← eD] at h ⊢
        exact ⟨(canon hr h).1, (canon hr h).2, dec_len2 h⟩
      repeat' (first | (apply And.intro <;> intro hc <;> (first | exact Bool.noConfusion hc | (exfalso; first | exact absurd rfl hc) | (simp only [decide_eq_true_eq, decide_eq_false_iff_not, Bool.not_eq_true', Bool.not_eq_false', beq_iff_eq, beq_eq_false_iff_ne, bne_iff_ne, bne_eq_false_iff_eq, Bool.true_eq_false, Bool.false_eq_true, ne_eq, not_true_eq_false] at hc <;> first | exact absurd rfl hc | (exfalso; first | exact absurd rfl hc) | skip) | skip)) | (refine And.intro (by first | exact trivial | decide | omega | (dsimp only; omega) | exact fun _ _ => rfl | exact ⟨by assumption, by first | exact trivial | decide | omega | (dsimp only; omega)⟩) ?_) | (apply And.intro) | (intro s hs; (first | (have q : D = s := (by (rw [hs]; dsimp only; rw [toL_b, eD])); clear hs; subst q) | (have q : s = some raw := (hs.trans (congrArg encR (pk_eq D.1 _))).trans (hD (by assumption)).2.1; clear hs; subst q) | (have q : s = true := (by (rw [hs]; dsimp only [Option.getD_some]; (first | rw [toL_b0, toL_b] | rw [toL_b0, toL_b0] | rw [toL_b0]); exact decide_eq_true rfl)); clear hs; subst q) | skip)))
      all_goals first
        | exact rfl
        | exact fun _ => rfl
        | (dsimp only; rw [toL_b]; exact hr)
        | (dsimp only; rw [toL_b]; omega)
        | exact Eq.mp (congrArg PkW (pk_eq D.1 _).symm) (hD (by assumption)).1.w
        | (have hw := valid_len (hD (by assumption)).1.v
           show (toL eB D.1.2.length _).length ≤ _
           rw [toL_len]
           omega)
        | (have hw := (hD (by assumption)).2.2
           show (toL eB raw.length _).length ≤ _
           rw [toL_len]
           omega)
        | (refine ⟨⟨1, by omega⟩, [], by first | omega | (dsimp only; omega) | decide, rfl, ?_, ?_⟩
           · repeat' (first | exact trivial | exact rfl | exact leF_ptr rfl | exact leF_int rfl | exact leF_bool rfl | exact leF_cl (cl_slB _ _) | exact leF_cl (cl_slR _ _) | exact leF_cl (cl_ll _ _) | exact leF_c (leC_os rfl rfl) | refine leF_int ?_ | refine leF_bool ?_ | exact leN_varA (fun _ _ => (Elem.flat _ _ _).le) | exact leN_varA (fun _ _ => leC_top) | apply And.intro)
           · repeat' (first | exact trivial | exact rfl | exact leF_ptr rfl | exact leF_int rfl | exact leF_bool rfl | exact leF_cl (cl_slB _ _) | exact leF_cl (cl_slR _ _) | exact leF_cl (cl_ll _ _) | exact leF_c (leC_os rfl rfl) | refine leF_int ?_ | refine leF_bool ?_ | exact leN_varA (fun _ _ => (Elem.flat _ _ _).le) | exact leN_varA (fun _ _ => leC_top) | apply And.intro)
             all_goals first
               | exact leN_ents
               | exact leN_row rfl fun i hi j hj => lst_le rfl
               | skip)
        | skip
    · dsimp only
      obtain ⟨D, eD⟩ : ∃ D, decF M = D := ⟨_, rfl⟩
      have hD : D.2 = 0 → PkM D.1 ∧ encR D.1 = some M ∧ M.length ≤ 1280 := fun h => by
        rw [← eD] at h ⊢
        exact ⟨(canon hMb h).1, (canon hMb h).2, dec_len2 h⟩
      repeat' (first | (apply And.intro <;> intro hc <;> (first | exact Bool.noConfusion hc | (exfalso; first | exact absurd rfl hc) | (simp only [decide_eq_true_eq, decide_eq_false_iff_not, Bool.not_eq_true', Bool.not_eq_false', beq_iff_eq, beq_eq_false_iff_ne, bne_iff_ne, bne_eq_false_iff_eq, Bool.true_eq_false, Bool.false_eq_true, ne_eq, not_true_eq_false] at hc <;> first | exact absurd rfl hc | (exfalso; first | exact absurd rfl hc) | skip) | skip)) | (refine And.intro (by first | exact trivial | decide | omega | (dsimp only; omega) | exact fun _ _ => rfl | exact ⟨by assumption, by first | exact trivial | decide | omega | (dsimp only; omega)⟩) ?_) | (apply And.intro) | (intro s hs; (first | (have q : D = s := (by (rw [hs]; dsimp only; rw [toL_b0, eD])); clear hs; subst q) | (have q : s = some M := (hs.trans (congrArg encR (pk_eq D.1 _))).trans (hD (by assumption)).2.1; clear hs; subst q) | (have q : s = true := (by (rw [hs]; dsimp only [Option.getD_some]; (first | rw [toL_b0, toL_b] | rw [toL_b0, toL_b0] | rw [toL_b0]); exact decide_eq_true rfl)); clear hs; subst q) | skip)))
      all_goals first
        | exact rfl
        | exact fun _ => rfl
        | (dsimp only; rw [toL_b0]; exact hMb)
        | (dsimp only; rw [toL_b0]; omega)
        | exact Eq.mp (congrArg PkW (pk_eq D.1 _).symm) (hD (by assumption)).1.w
        | (have hw := valid_len (hD (by assumption)).1.v
           show (toL eB D.1.2.length _).length ≤ _
           rw [toL_len]
           omega)
        | (have hw := (hD (by assumption)).2.2
           show (toL eB M.length _).length ≤ _
           rw [toL_len]
           omega)
        | (refine ⟨⟨2, by omega⟩, [], by first | omega | (dsimp only; omega) | decide, rfl, ?_, ?_⟩
           · repeat' (first | exact trivial | exact rfl | exact leF_ptr rfl | exact leF_int rfl | exact leF_bool rfl | exact leF_cl (cl_slB _ _) | exact leF_cl (cl_slR _ _) | exact leF_cl (cl_ll _ _) | exact leF_c (leC_os rfl rfl) | refine leF_int ?_ | refine leF_bool ?_ | exact leN_varA (fun _ _ => (Elem.flat _ _ _).le) | exact leN_varA (fun _ _ => leC_top) | apply And.intro)
           · repeat' (first | exact trivial | exact rfl | exact leF_ptr rfl | exact leF_int rfl | exact leF_bool rfl | exact leF_cl (cl_slB _ _) | exact leF_cl (cl_slR _ _) | exact leF_cl (cl_ll _ _) | exact leF_c (leC_os rfl rfl) | refine leF_int ?_ | refine leF_bool ?_ | exact leN_varA (fun _ _ => (Elem.flat _ _ _).le) | exact leN_varA (fun _ _ => leC_top) | apply And.intro)
             all_goals first
               | exact leN_ents
               | exact leN_row rfl fun i hi j hj => lst_le rfl
               | skip)
        | skip
    · dsimp only
      repeat' (first | (apply And.intro <;> intro hc <;> (first | exact Bool.noConfusion hc | (simp only [decide_eq_true_eq, decide_eq_false_iff_not, Bool.not_eq_true', Bool.not_eq_false', beq_iff_eq, beq_eq_false_iff_ne, bne_iff_ne, bne_eq_false_iff_eq, Bool.true_eq_false, Bool.false_eq_true, ne_eq, not_true_eq_false] at hc <;> first | exact absurd rfl hc | skip) | skip)) | (refine And.intro (by first | exact trivial | decide | omega | (dsimp only; omega) | exact fun _ _ => rfl | exact ⟨by assumption, by first | exact trivial | decide | omega | (dsimp only; omega)⟩) ?_) | (apply And.intro) | (intro s hs; (have q : s = true := hs; clear hs; subst q)))
      all_goals first
        | exact Done.mk (leF_bool rfl)
        | skip
    · omega
  · refine ⟨rfl, ?_, ?_⟩
    · repeat' (first | exact trivial | exact rfl | exact leF_ptr rfl | exact leF_int rfl | exact leF_bool rfl | exact leF_cl (cl_slB _ _) | exact leF_cl (cl_slR _ _) | exact leF_cl (cl_ll _ _) | exact leF_c (leC_os rfl rfl) | refine leF_int ?_ | refine leF_bool ?_ | exact leN_varA (fun _ _ => (Elem.flat _ _ _).le) | exact leN_varA (fun _ _ => leC_top) | apply And.intro)
    · repeat' (first | exact trivial | exact rfl | exact leF_ptr rfl | exact leF_int rfl | exact leF_bool rfl | exact leF_cl (cl_slB _ _) | exact leF_cl (cl_slR _ _) | exact leF_cl (cl_ll _ _) | exact leF_c (leC_os rfl rfl) | refine leF_int ?_ | refine leF_bool ?_ | exact leN_varA (fun _ _ => (Elem.flat _ _ _).le) | exact leN_varA (fun _ _ => leC_top) | apply And.intro)
      · rw [eM]
        exact leN_is (by rw [List.length_set]; rfl) (isRow_set (isRow_row _) rfl)
      · refine leN_row rfl fun i hi j hj => ?_
        have hi : i < 2 := hi
        rcases i with _ | _ | i
        · exact cl_slR eB raw _ rfl
        · exact leC_os rfl hMn.symm
        · omega
end Go.Proofs.Ytjknkfjhcapocaa.AX
